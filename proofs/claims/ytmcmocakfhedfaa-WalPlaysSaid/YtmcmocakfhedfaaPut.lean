/- The walks of word.Put and jetwayref01.Put: a number as bytes, the highest first. -/
import Derived.Test.YtmcmocakfhedfaaProg
import Derived.Test.YtmcmocakfhedfaaPlainW
import Derived.Test.YtmcmocakfhedfaaBase
import Derived.Test.YtmcmocakfhedfaaB8
namespace Go.Proofs.Ytmcmocakfhedfaa
open Go.RowKit

namespace W
/-- The last k bytes of a number, the highest first. -/
def be : Nat → Nat → List UInt8
  | 0, _ => []
  | k + 1, n => UInt8.ofNat (n / 256 ^ k) :: be k n
theorem be_length (k n : Nat) : (be k n).length = k := by induction k with
  | zero => rfl
  | succ k ih => simp [be, ih]
theorem be_snoc (k n : Nat) : be (k + 1) n = be k (n / 256) ++ [UInt8.ofNat n] := by
  induction k with
  | zero => simp [be]
  | succ k ih =>
    rw [be, ih, be, List.cons_append, Nat.div_div_eq_div_mul, Nat.pow_succ, Nat.mul_comm]
/-- How many bytes are laid for a wanted size. -/
def sz (size : Int) : Nat := (min (max size 0) 8).toNat
end W

set_option maxRecDepth 100000 in
set_option maxHeartbeats 800000 in
theorem put_any (v : Value) (l : List UInt8) (n : Nat) (size : Int) (w : World) (hn : n < 18446744073709551616) (h : Bs w v l) (hlen : l.length ≤ 1099511627776) (hs1 : -9223372036854775808 ≤ size) (hs2 : size ≤ 9223372036854775807) :
    Calls Try.prog 81 #[v, .int .u64 (n : Int), .int .i64 size] w fun e w' =>
      ∃ v', e = .returned v' ∧ w'.ownsRow w.heap.size 5 1 v' (l ++ W.be (W.sz size) n).length ((l ++ W.be (W.sz size) n).map byteVal) ∧ Ext w w' := by
  obtain ⟨i0, hi, hz0, hz1, hz2⟩ := info_parts info_u8
  have hR : Hid (Bs w v l) := h
  obtain ⟨a, cap, rfl⟩ := h.shape
  obtain ⟨B, hB⟩ : ∃ B, B = w.heap.size := ⟨_, rfl⟩
  rw [← hB]
  have HB : Hid (B = w.heap.size) := hB
  have hB' : B ≤ w.heap.size := by omega
  clear hB
  go_enter Try.func81, Try.ntmps81
  go_wp2_with (first
    | (at_make; refine wpl_make _ rfl _ _ 31 rfl B 5 i0 (.int .u8 0) Try.underlying31 hi hz0 hz1 rfl _ _ _ _ l.length (l.length + 8) rfl rfl rfl (by omega) (by omega) (by rw [hz2]; omega) (by unfold maxLen; omega) hB' ?_; intro w1 hown1 hext1 hg1)
    | ((with_reducible show wpList _ _ _ (⟨_, Op.call ⟨.builtin .copy, _, _⟩, _, _, _, _⟩ :: _) _ _); refine wpl_copy _ rfl _ _ _ _ rfl 5 Try.underlying31 size_u8 B _ l.length _ (by rfl) hown1 _ (l.map byteVal) (by rfl) (hR.out.ext hext1).reads l.length (by simp) (by omega) ?_; intro w2 hown2 hg2))
  all_goals
    have hext2 : Ext w w2 := hext1.grown hg2 (by intro k hk; simp [Value.ownBlock] at hk; omega)
    have hown3 : w2.ownsRow B 5 1 (.slice (some ⟨w.heap.size, 0, none⟩) l.length (l.length + 8)) (l ++ []).length ((l ++ []).map byteVal) := by
      simpa using hown2
    clear hown1 hg1 hg2 hown2 hext1
    go_loopw [7, 8] (fun ov iv wr => ∃ k : Nat, ∃ pre : List UInt8, k ≤ 8 ∧ pre.length ≤ 8 ∧ Hid (pre ++ W.be k n = W.be (W.sz size) n) ∧ iv = .int .i64 ((k : Int) - 1) ∧ wr.ownsRow B 5 1 ov (l ++ pre).length ((l ++ pre).map byteVal) ∧ Ext w wr) (fun _ iv _ => (intOf iv + 1).toNat)
    case atStart =>
      refine ⟨W.sz size, [], by unfold W.sz; omega, by simp, rfl, ?_, hown3, hext2⟩
      unfold W.sz
      congr 1
      omega
    case round =>
      obtain ⟨k, pre, hk, hpl, hp, rfl, hown, hx⟩ := hrel
      have hsz := hx.size
      match k, hk, hp with
      | 0, hk, hp =>
        have e : l ++ pre = l ++ W.be (W.sz size) n := by rw [← hp.out]; simp [W.be]
        rw [e] at hown
        go_wp2
        go_ret
        exact ⟨_, rfl, hown, hx⟩
      | k + 1, hk, hp =>
        have e : (((k + 1 : Nat) : Int) - 1) = (k : Int) := by omega
        rw [e]
        clear e
        have hv : Hid (Value.int .u8 ((n : Int) / 2 ^ (8 * k) % 256) = byteVal (UInt8.ofNat (n / 256 ^ k))) := by
          unfold Hid byteVal
          rw [W.u8_of, show (256 : Nat) = 2 ^ 8 from rfl, ← Nat.pow_mul]
          simp
        have hb1 : Reads (wr.alloc (.cells #[.int .u8 ((n : Int) / 2 ^ (8 * k) % 256)] 5)) (.slice (some ⟨wr.heap.size, 0, none⟩) 1 1) [byteVal (UInt8.ofNat (n / 256 ^ k))] := by
          rw [hv.out]; exact Reads.one wr _ _ rfl
        have HR := Lib.hid hb1
        clear hb1
        go_wp2_with (at_builtin; refine wpl_append _ rfl _ _ 31 rfl B 5 i0 (.int .u8 0) 1 Try.underlying31 hi hz0 hz1 hz2 rfl _ _ _ (by rfl) (hown.alloc _) _ _ (by rfl) HR.out (by simp; unfold maxLen; omega) (by simp; omega) (by simp; omega) ?_; intro v' w1 hown' hgrow)
        have hown2 : w1.ownsRow B 5 1 v' (l ++ (pre ++ [UInt8.ofNat (n / 256 ^ k)])).length ((l ++ (pre ++ [UInt8.ofNat (n / 256 ^ k)])).map byteVal) := by
          have e : (l ++ (pre ++ [UInt8.ofNat (n / 256 ^ k)])) = (l ++ pre) ++ [UInt8.ofNat (n / 256 ^ k)] := by simp
          rw [e, List.map_append, List.length_append]; exact hown'
        have hx2 : Ext w w1 := (hx.alloc _).grown hgrow (fun k hk => by have := (hown.lt k hk).1; have := HB.out; omega)
        have hp2 : Hid ((pre ++ [UInt8.ofNat (n / 256 ^ k)]) ++ W.be k n = W.be (W.sz size) n) := by
          unfold Hid; rw [← hp.out, W.be]; simp
        have hpl2 : (pre ++ [UInt8.ofNat (n / 256 ^ k)]).length ≤ 8 := by
          have h1 := congrArg List.length hp2.out
          rw [List.length_append, W.be_length, W.be_length] at h1
          have h2 : W.sz size ≤ 8 := by unfold W.sz; omega
          omega
        clear hown' hgrow
        go_roundw
        case rel => exact ⟨k, _, by omega, hpl2, hp2, by first | rfl | (congr 1; omega), hown2, hx2⟩
        case measure => (simp [intOf]; try omega)

set_option maxRecDepth 100000 in
set_option maxHeartbeats 800000 in
theorem refPut (l : List UInt8) (n : Nat) (size : Int) (w : World) (hn : n < 18446744073709551616) (hlen : l.length ≤ 1099511627776) (hs1 : -9223372036854775808 ≤ size) (hs2 : size ≤ 9223372036854775807) :
    Calls Try.prog 72 #[.string ⟨l.toArray⟩, .int .u64 (n : Int), .int .i64 size] w fun e w' =>
      e = .returned (.string ⟨(l ++ W.be (W.sz size) n).toArray⟩) ∧ Ext w w' := by
  go_enter Try.func72, Try.ntmps72
  go_wp2
  go_loopw [1, 7, 8] (fun nv dv iv wr => ∃ k m : Nat, ∃ suf : List UInt8, k ≤ W.sz size ∧ m < 18446744073709551616 ∧ suf.length = k ∧ Hid (W.be (W.sz size - k) m ++ suf = W.be (W.sz size) n) ∧ nv = .int .u64 m ∧ iv = .int .i64 k ∧ dv = .string ⟨suf.toArray⟩ ∧ Ext w wr) (fun _ _ iv _ => 8 - (intOf iv).toNat)
  case atStart => exact ⟨0, n, [], by omega, hn, rfl, by simp [Hid], rfl, rfl, rfl, Ext.refl _⟩
  case round =>
    obtain ⟨k, m, suf, hk, hm, hsl, hp, rfl, rfl, rfl, hx⟩ := hrel
    have hs8 : W.sz size ≤ 8 := by unfold W.sz; omega
    have hsl' : suf.length ≤ 8 := by omega
    have HSL := Lib.hid hsl
    clear hsl
    by_cases h1 : (k : Int) < size
    · by_cases h2 : (k : Int) < 8
      · have hk1 : k + 1 ≤ W.sz size := by unfold W.sz; omega
        have hcv := one_string (P := Try.prog) 31 9 5 Try.underlying31 Try.underlying5 Try.underlying9 wr (UInt8.ofNat m) ((m : Int) % 256) (by rw [W.u8_of]; omega)
        have hp2 : Hid (W.be (W.sz size - (k + 1)) (m / 256) ++ (UInt8.ofNat m :: suf) = W.be (W.sz size) n) := by
          unfold Hid; rw [← hp.out, show W.sz size - k = (W.sz size - (k + 1)) + 1 by omega, W.be_snoc]; simp
        have hstr : Hid (Value.string ((⟨#[UInt8.ofNat m]⟩ : ByteArray) ++ ⟨suf.toArray⟩) = .string ⟨(UInt8.ofNat m :: suf).toArray⟩) := by
          unfold Hid; rw [show (⟨#[UInt8.ofNat m]⟩ : ByteArray) = ⟨[UInt8.ofNat m].toArray⟩ from rfl, ba_append]; rfl
        go_wp2
        go_roundw
        case rel => exact ⟨k + 1, m / 256, _, hk1, by omega, by simp [HSL.out], hp2, by simp, by go_num, hstr.out, hx.alloc _⟩
        case measure => simp [intOf]; omega
      · have hfin : Hid (Value.string ((⟨l.toArray⟩ : ByteArray) ++ ⟨suf.toArray⟩) = .string ⟨(l ++ W.be (W.sz size) n).toArray⟩) := by
          unfold Hid; rw [ba_append, ← hp.out, show W.sz size - k = 0 by omega]; rfl
        go_wp2
        go_ret
        exact ⟨congrArg Ending.returned hfin.out, hx⟩
    · have hfin : Hid (Value.string ((⟨l.toArray⟩ : ByteArray) ++ ⟨suf.toArray⟩) = .string ⟨(l ++ W.be (W.sz size) n).toArray⟩) := by
        have : W.sz size ≤ k := by unfold W.sz; omega
        unfold Hid; rw [ba_append, ← hp.out, show W.sz size - k = 0 by omega]; rfl
      go_wp2
      go_ret
      exact ⟨congrArg Ending.returned hfin.out, hx⟩
end Go.Proofs.Ytmcmocakfhedfaa
