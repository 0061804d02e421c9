/- The walk of word.Var: bytes, and a number in as few as it takes. -/
import Derived.Test.YtnbadeaiocandaaProg
import Derived.Test.YtnbadeaiocandaaPlainW
import Derived.Test.YtnbadeaiocandaaBase
namespace Go.Proofs.Ytnbadeaiocandaa
open Go.RowKit

theorem info_u8 : (Try.prog.info? 5).map (fun i => (i.zero, i.size, i.bytes)) = some (some (.int .u8 0), 1, 1) := by kernel_rfl
theorem size_u8 : (Try.prog.info? 5).map (·.size) = some 1 := by kernel_rfl

set_option maxRecDepth 100000 in
set_option maxHeartbeats 800000 in
theorem var_any (v : Value) (l : List UInt8) (n : Nat) (w : World) (hn : n < 18446744073709551616) (h : Bs w v l) (hlen : l.length ≤ 1099511627776) :
    Calls Try.prog 14 #[v, .int .u64 (n : Int)] w fun e w' =>
      ∃ v', e = .returned v' ∧ w'.ownsRow w.heap.size 5 1 v' (l ++ W.vb n).length ((l ++ W.vb n).map byteVal) ∧ Ext w w' := by
  obtain ⟨i0, hi, hz0, hz1, hz2⟩ := info_parts info_u8
  have hR : Hid (Bs w v l) := h
  obtain ⟨a, cap, rfl⟩ := h.shape
  obtain ⟨B, hB⟩ : ∃ B, B = w.heap.size := ⟨_, rfl⟩
  rw [← hB]
  have HB : Hid (B = w.heap.size) := hB
  have hB' : B ≤ w.heap.size := by omega
  clear hB
  go_enter Try.func14, Try.ntmps14
  go_wp2_with (first
    | (at_make; refine wpl_make _ rfl _ _ 22 rfl B 5 i0 (.int .u8 0) Try.underlying22 hi hz0 hz1 rfl _ _ _ _ l.length (l.length + 10) rfl rfl rfl (by omega) (by omega) (by rw [hz2]; omega) (by unfold maxLen; omega) hB' ?_; intro w1 hown1 hext1 hg1)
    | ((with_reducible show wpList _ _ _ (⟨some 14, Op.call _, _, _, _, _⟩ :: _) _ _); refine wpl_copy _ rfl _ _ _ _ rfl 5 Try.underlying22 size_u8 B _ l.length _ (by rfl) hown1 _ (l.map byteVal) (by rfl) (hR.out.ext hext1).reads l.length (by simp) (by omega) ?_; intro w2 hown2 hg2))
  have hext2 : Ext w w2 := hext1.grown hg2 (by intro k hk; simp [Value.ownBlock] at hk; omega)
  have hown3 : w2.ownsRow B 5 1 (.slice (some ⟨w.heap.size, 0, none⟩) l.length (l.length + 10)) (l ++ []).length ((l ++ []).map byteVal) := by
    simpa using hown2
  clear hown1 hg1 hg2 hown2 hext1 hR
  go_frame
  go_loopw [1, 5] (fun nv ov wr => ∃ m : Nat, ∃ pre : List UInt8, m < 18446744073709551616 ∧ Hid (pre ++ W.vb m = W.vb n) ∧ nv = .int .u64 m ∧ wr.ownsRow B 5 1 ov (l ++ pre).length ((l ++ pre).map byteVal) ∧ Ext w wr) (fun nv _ _ => (intOf nv).toNat)
  case atStart => exact ⟨n, [], hn, rfl, rfl, hown3, hext2⟩
  case round =>
    obtain ⟨m, pre, hm, hp, rfl, hown, hx⟩ := hrel
    have hv10 := W.vb_len10 n hn
    have hpl : pre.length ≤ 10 := by have := congrArg List.length hp.out; simp at this; omega
    clear hv10
    have hsz := hx.size
    by_cases h127 : m < 128
    · have hb1 : Reads (wr.alloc (.cells #[.int .u8 (m : Int)] 5)) (.slice (some ⟨wr.heap.size, 0, none⟩) 1 1) [byteVal (UInt8.ofNat m)] := by
        have e : byteVal (UInt8.ofNat m) = .int .u8 (m : Int) := by unfold byteVal; rw [W.u8_of, Nat.mod_eq_of_lt (by omega)]
        rw [e]; exact Reads.one wr _ _ rfl
      have HR := Lib.hid hb1
      clear hb1
      go_wp2_with (at_builtin; refine wpl_append _ rfl _ _ 22 rfl B 5 i0 (.int .u8 0) 1 Try.underlying22 hi hz0 hz1 hz2 rfl _ _ _ (by rfl) (hown.alloc _) _ _ (by rfl) HR.out (by simp; unfold maxLen; omega) (by simp; omega) (by simp; omega) ?_; intro v' w1 hown' hgrow)
      have hown2 : w1.ownsRow B 5 1 v' (l ++ W.vb n).length ((l ++ W.vb n).map byteVal) := by
        have e : (l ++ W.vb n) = (l ++ pre) ++ [UInt8.ofNat m] := by rw [← hp.out, W.vb_small m h127]; simp
        rw [e, List.map_append, List.length_append]; exact hown'
      have hx2 : Ext w w1 := (hx.alloc _).grown hgrow (fun k hk => by have := (hown.lt k hk).1; have := HB.out; omega)
      go_ret
      exact ⟨v', rfl, hown2, hx2⟩
    · have hb1 : Reads (wr.alloc (.cells #[.int .u8 (bits BinOp.or IntKind.u8 (IntKind.u8.wrap (m : Int)) 128)] 5)) (.slice (some ⟨wr.heap.size, 0, none⟩) 1 1) [byteVal (UInt8.ofNat (m % 128 + 128))] := by
        rw [W.or128]; exact Reads.one wr _ _ rfl
      have HR := Lib.hid hb1
      clear hb1
      go_wp2_with (at_builtin; refine wpl_append _ rfl _ _ 22 rfl B 5 i0 (.int .u8 0) 1 Try.underlying22 hi hz0 hz1 hz2 rfl _ _ _ (by rfl) (hown.alloc _) _ _ (by rfl) HR.out (by simp; unfold maxLen; omega) (by simp; omega) (by simp; omega) ?_; intro v' w1 hown' hgrow)
      have hown2 : w1.ownsRow B 5 1 v' (l ++ (pre ++ [UInt8.ofNat (m % 128 + 128)])).length ((l ++ (pre ++ [UInt8.ofNat (m % 128 + 128)])).map byteVal) := by
        have e : (l ++ (pre ++ [UInt8.ofNat (m % 128 + 128)])) = (l ++ pre) ++ [UInt8.ofNat (m % 128 + 128)] := by simp
        rw [e, List.map_append, List.length_append]; exact hown'
      have hx2 : Ext w w1 := (hx.alloc _).grown hgrow (fun k hk => by have := (hown.lt k hk).1; have := HB.out; omega)
      have hp2 : Hid ((pre ++ [UInt8.ofNat (m % 128 + 128)]) ++ W.vb (m / 128) = W.vb n) := by
        unfold Hid; rw [← hp.out, W.vb_more m h127]; simp
      clear hown' hgrow
      go_roundw
      case rel => exact ⟨m / 128, _, by omega, hp2, by simp, hown2, hx2⟩
      case measure => simp [intOf]; omega
end Go.Proofs.Ytnbadeaiocandaa
