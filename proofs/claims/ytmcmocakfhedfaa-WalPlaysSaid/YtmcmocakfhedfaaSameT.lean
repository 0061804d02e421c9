/- jetwaylaw05.Texts, Same. -/
import Derived.Test.YtmcmocakfhedfaaRecord
namespace Go.Proofs.Ytmcmocakfhedfaa
open Go.RowKit

theorem Reads.shape {w : World} {v : Value} {cs : List Value} (h : Reads w v cs) : ∃ a cap, v = .slice a cs.length cap := let ⟨a, cap, hv, _⟩ := h; ⟨a, cap, hv⟩
theorem Reads.length_le {w : World} {v : Value} {cs : List Value} (h : Reads w v cs) : cs.length ≤ 9223372036854775807 := by
  obtain ⟨a, cap, hv, h1, h2, _⟩ := h
  unfold maxLen at h2
  omega
theorem Reads.at {w : World} {a : Option Addr} {n cap : Nat} {cs : List Value} (h : Reads w (.slice a n cap) cs) (j : Nat) (hj : j < cs.length) : ∃ b off, a = some ⟨b, off, none⟩ ∧ w.cell? ⟨b, off + j, none⟩ = some cs[j] := by
  obtain ⟨a', cap', hv, h1, h2, hn, h3, h4⟩ := h
  obtain ⟨rfl, _, rfl⟩ := Value.slice.inj hv
  rcases h4 with rfl | ⟨b, off, rfl, hc⟩
  · simp at hj
  · exact ⟨b, off, rfl, hc j _ (List.getElem?_eq_getElem hj)⟩

/-- Two texts of bytes are told apart. -/
theorem str_ne {a b : List UInt8} (h : a ≠ b) : (⟨a.toArray⟩ : ByteArray) ≠ ⟨b.toArray⟩ := by
  intro e
  injection e with e
  exact h (by simpa using e)

def strV (l : List UInt8) : Value := .string ⟨l.toArray⟩
theorem info_str : (Try.prog.info? 9).map (fun i => (i.zero, i.size, i.bytes)) = some (some (.string ⟨#[]⟩), 1, 16) := by kernel_rfl
theorem str_ones (ls : List (List UInt8)) : ∀ u ∈ ls.map strV, u.oneCell' = true := by
  intro u hu
  obtain ⟨_, _, rfl⟩ := List.mem_map.1 hu
  rfl

set_option maxRecDepth 100000 in
set_option maxHeartbeats 1600000 in
theorem texts_any {X : Nat → Prop} (v : Value) (ls : List (List UInt8)) (w : World) (h : RowsX w X v ls) (hl : ls.length ≤ 1000000) :
    Calls Try.prog 21 #[v] w fun e w' => ∃ v', e = .returned v' ∧ w'.ownsRow w.heap.size 9 1 v' ls.length (ls.map strV) ∧ Ext w w' := by
  obtain ⟨i0, hi0, hz0, hz1, hz2⟩ := info_parts info_str
  obtain ⟨_, a, cap, rfl, hcell⟩ := h.shape
  have HC := Lib.hid hcell
  have hli : (ls.length : Int) ≤ 1000000 := by omega
  clear h hcell
  go_enter Try.func21, Try.ntmps21
  go_wp2
  go_loopw [3, 4] (fun ov iv wr => ∃ k : Nat, k ≤ ls.length ∧ iv = .int .i64 (k : Int) ∧ wr.ownsRow w.heap.size 9 1 ov k ((ls.take k).map strV) ∧ Hid (Ext w wr)) (fun _ iv _ => ls.length - (intOf iv).toNat)
  case atStart => exact ⟨0, by omega, rfl, World.ownsRow_nil _ _ _ _, Ext.refl w⟩
  case round =>
    obtain ⟨k, hk, rfl, hown, hx⟩ := hrel
    have HO := Lib.hid hown
    clear hown
    by_cases hlt : k < ls.length
    · have hlti : (k : Int) < (ls.length : Int) := by omega
      obtain ⟨b, off, rfl, -, u, hcu, hbu, -⟩ := HC.out k hlt
      have hcu2 := Ext.cell hx.out hcu
      have hb := (hbu.ext hx.out).toString (P := Try.prog) 31 9 5 Try.underlying31 Try.underlying5 Try.underlying9
      obtain ⟨ua, uc, rfl⟩ := hbu.shape
      have HTK := Lib.hid (show (ls.take (k + 1)).map strV = (ls.take k).map strV ++ [strV ls[k]] by rw [List.take_succ_eq_append_getElem hlt, List.map_append]; rfl)
      clear hbu hcu
      generalize ls[k] = S at *
      have HO2 := Lib.hid ((Ext.of_alloc wr (.cells #[strV S] 9)).keptOwn HO.out)
      have HRD := Lib.hid (Reads.one wr (strV S) 9 rfl)
      have hs2 := hx.out.size
      have hs3 : w.heap.size ≤ (wr.alloc (.cells #[strV S] 9)).heap.size := by simp; omega
      go_wp2_with (first | (at_builtin; refine wpl_append _ rfl _ _ 30 rfl w.heap.size 9 i0 (.string ⟨#[]⟩) 16 Try.underlying30 hi0 hz0 hz1 hz2 rfl _ k ((ls.take k).map strV) (by rfl) HO2.out _ [strV S] (by rfl) HRD.out (by simp [maxLen]; omega) (by simp; omega) hs3 ?_; intro v' w3 hown3 hgrow) | fail)
      have hx3 : Ext w w3 := (hx.out.alloc _).grown hgrow (fun q hq => (HO2.out.lt q hq).1)
      rw [← HTK.out] at hown3
      have HX3 := Lib.hid hx3
      have HO3 := Lib.hid hown3
      clear hx3 hown3 hgrow HO2 hb hs2 hs3 hx HRD
      go_wp2
      go_roundw
      case rel => exact ⟨k + 1, by omega, by go_num, HO3.out, HX3.out⟩
      case measure => (simp [intOf]; try omega)
    · obtain rfl : k = ls.length := by omega
      rw [List.take_length] at HO
      have HX := Lib.hid hx.out
      clear hx
      go_wp2
      go_ret
      exact ⟨_, rfl, HO.out, HX.out⟩

set_option maxRecDepth 100000 in
set_option maxHeartbeats 1600000 in
theorem same_any (va vb : Value) (la lb : List (List UInt8)) (w : World) (ha : Reads w va (la.map strV)) (hb : Reads w vb (lb.map strV)) :
    Calls Try.prog 20 #[va, vb] w fun e w' => e = .returned (.bool (decide (la = lb))) ∧ Ext w w' := by
  have hla := ha.length_le
  have hlb := hb.length_le
  obtain ⟨aa, ca, rfl⟩ := ha.shape
  obtain ⟨ab, cb, rfl⟩ := hb.shape
  rw [List.length_map] at *
  have HA := Lib.hid ha
  have HB := Lib.hid hb
  clear ha hb
  by_cases hl : la.length = lb.length
  · have hli : (la.length : Int) = (lb.length : Int) := by omega
    generalize hr : decide (la = lb) = r
    have HR := Lib.hid hr
    clear hr
    rw [hl] at HA ⊢
    go_enter Try.func20, Try.ntmps20
    go_wp2
    go_loopw [5] (fun iv wr => ∃ k : Nat, k ≤ lb.length ∧ iv = .int .i64 k ∧ Hid (la.take k = lb.take k) ∧ Hid (Ext w wr)) (fun iv _ => lb.length - (intOf iv).toNat)
    case atStart => exact ⟨0, by omega, rfl, rfl, Ext.refl w⟩
    case round =>
      obtain ⟨k, hk, rfl, htk, hx⟩ := hrel
      by_cases hlt : k < lb.length
      · have hlti : (k : Int) < (lb.length : Int) := by omega
        have hk1 : k < la.length := by omega
        obtain ⟨b1, o1, rfl, c1⟩ := HA.out.at k (by rw [List.length_map]; exact hk1)
        obtain ⟨b2, o2, rfl, c2⟩ := HB.out.at k (by rw [List.length_map]; exact hlt)
        rw [List.getElem_map] at c1 c2
        unfold strV at c1 c2
        replace c1 := hx.out.cell c1
        replace c2 := hx.out.cell c2
        have HX2 := Lib.hid (hx.out.trans (Ext.of_drew wr))
        have hst : Hid (la[k] = lb[k] → la.take (k + 1) = lb.take (k + 1)) := fun e => by
          rw [List.take_succ_eq_append_getElem hk1, List.take_succ_eq_append_getElem hlt, htk.out, e]
        have hno : Hid (la[k] ≠ lb[k] → r = false) := fun e => by
          rw [← HR.out, decide_eq_false_iff_not]
          intro h2; subst h2; exact e rfl
        clear hx htk
        generalize la[k] = S at *
        generalize lb[k] = T at *
        by_cases hST : S = T
        · have hst2 := Lib.hid (hst.out hST)
          subst hST
          clear hst hno
          go_wp2_with fail
          go_region
          go_wp2
          go_roundw
          case rel => exact ⟨k + 1, by omega, by go_num, hst2, HX2⟩
          case measure => (simp [intOf]; try omega)
        · have hrf := hno.out hST
          have hbe : (S == T) = false := by rw [beq_eq_false_iff_ne]; exact hST
          subst hrf
          clear hst hno
          go_wp2_with fail
          go_region
          go_wp2
          go_ret
          exact ⟨rfl, HX2.out⟩
      · have hrt : r = true := by
          rw [← HR.out, decide_eq_true_iff]
          have h1 := htk.out
          rw [List.take_of_length_le (by omega), List.take_of_length_le (by omega)] at h1
          exact h1
        subst hrt
        have HX2 := Lib.hid hx.out
        clear htk hx
        go_wp2
        go_ret
        exact ⟨rfl, HX2.out⟩
  · have hd : decide (la = lb) = false := by
      rw [decide_eq_false_iff_not]; intro e; exact hl (by rw [e])
    rw [hd]
    have hli : ((la.length : Int) == (lb.length : Int)) = false := by rw [beq_eq_false_iff_ne]; omega
    have hli2 : ((la.length : Int) != (lb.length : Int)) = true := by rw [bne_iff_ne]; omega
    clear hd hl
    go_enter Try.func20, Try.ntmps20
    go_wp2
    go_ret
    exact ⟨rfl, Ext.refl w⟩
end Go.Proofs.Ytmcmocakfhedfaa
