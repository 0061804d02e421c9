/- jetwaylaw04.sectors and same. -/
import Derived.Test.YtmlancmcgcjodaaHeld2
import Derived.Test.YtmlancmcgcjodaaMade
import Derived.Test.YtmlancmcgcjodaaWFuse
namespace Go.Proofs.Ytmlancmcgcjodaa
open Go.RowKit

def strV (l : List UInt8) : Value := .string ⟨l.toArray⟩
/-- The bytes of the first k sectors. -/
def D.secs (d : D.Dsk) (k : Nat) : List (List UInt8) := (List.range k).map (fun i : Nat => D.sector d (i : Int))
theorem secs_len (d : D.Dsk) (k : Nat) : (D.secs d k).length = k := by simp [D.secs]
theorem secs_succ (d : D.Dsk) (k : Nat) : D.secs d (k + 1) = D.secs d k ++ [D.sector d (k : Int)] := by simp [D.secs, List.range_succ]
theorem info_str : (Try.prog.info? 9).map (fun i => (i.zero, i.size, i.bytes)) = some (some (.string ⟨#[]⟩), 1, 16) := by kernel_rfl

set_option maxRecDepth 100000 in
set_option maxHeartbeats 1600000 in
theorem sectors_any {w0 w : World} {X : Nat → Prop} {p : Nat} {d : D.Dsk} (h : Held w0 w X p d) (h6 : d.n = 6) (hup : D.Up d) :
    Calls Try.prog 10 #[.pointer (some ⟨p, 0, none⟩)] w fun e w' => ∃ v, e = .returned v ∧ w'.ownsRow w.heap.size 9 1 v 6 ((D.secs d 6).map strV) ∧ Ext w w' := by
  obtain ⟨i0, hi0, hz0, hz1, hz2⟩ := info_parts info_str
  have HD := Lib.hid h
  have HUP := Lib.hid hup
  clear h hup
  go_enter Try.func10, Try.ntmps10
  go_wp2
  go_loopw [3, 4] (fun ov iv wr => ∃ k : Nat, k ≤ 6 ∧ iv = .int .i64 k ∧ wr.ownsRow w.heap.size 9 1 ov k ((D.secs d k).map strV) ∧ Hid (Ext w wr)) (fun _ iv _ => 6 - (intOf iv).toNat)
  case atStart => exact ⟨0, by omega, rfl, by unfold D.secs; exact World.ownsRow_nil _ _ _ _, Ext.refl w⟩
  case round =>
    obtain ⟨k, hk, rfl, hown, hx⟩ := hrel
    have HO := Lib.hid hown
    clear hown
    by_cases hlt : k < 6
    · have hlti : (k : Int) < 6 := by omega
      obtain ⟨r1, r2⟩ := D.up_read HUP.out (k : Int) (by omega) (by omega)
      go_wp2_with fail
      refine (held_size (HD.out.after_ext hx.out)).mono ?_
      rintro e w2 ⟨rfl, rfl⟩
      rw [h6]
      go_wp2_with fail
      refine (held_read (HD.out.after_ext hx.out) (k : Int)).mono ?_
      rintro e w2 ⟨v, rfl, hown2, hx2⟩
      rw [r1]
      rw [r2] at hown2
      have hb := (Bs.of_own hown2).toString (P := Try.prog) 31 9 5 Try.underlying31 Try.underlying5 Try.underlying9
      have HO2 := Lib.hid ((Ext.of_alloc w2 (.cells #[strV (D.sector d (k : Int))] 9)).keptOwn (hx2.keptOwn HO.out))
      have HX2 := Lib.hid (hx.out.trans hx2)
      have HRD := Lib.hid (Reads.one w2 (strV (D.sector d (k : Int))) 9 rfl)
      have hsucc := Lib.hid (secs_succ d k)
      clear hown2 hx2 hx HO r1 r2
      generalize D.sector d (k : Int) = S at *
      have hlen : (D.secs d (k + 1)).map strV = (D.secs d k).map strV ++ [strV S] := by rw [hsucc.out]; simp
      have hs2 := HX2.out.size
      have hs3 : w.heap.size ≤ (w2.alloc (.cells #[strV S] 9)).heap.size := by simp; omega
      have HLEN := Lib.hid hlen
      clear hlen hsucc
      go_wp2_with (first | (at_builtin; refine wpl_append _ rfl _ _ 29 rfl w.heap.size 9 i0 (.string ⟨#[]⟩) 16 Try.underlying29 hi0 hz0 hz1 hz2 rfl _ k ((D.secs d k).map strV) (by rfl) HO2.out _ [strV S] (by rfl) HRD.out (by simp [maxLen]; omega) (by simp; omega) hs3 ?_; intro v' w3 hown3 hgrow) | fail)
      have hx3 : Ext w w3 := (HX2.out.alloc _).grown hgrow (fun q hq => (HO2.out.lt q hq).1)
      rw [← HLEN.out] at hown3
      have HX3 := Lib.hid hx3
      have HO3 := Lib.hid hown3
      clear hx3 hown3 hgrow HO2 hb hs2 hs3
      go_wp2
      go_roundw
      case rel => exact ⟨k + 1, by omega, by go_num, HO3.out, HX3.out⟩
      case measure => (simp [intOf]; try omega)
    · obtain rfl : k = 6 := by omega
      go_wp2_with fail
      refine (held_size (HD.out.after_ext hx.out)).mono ?_
      rintro e w2 ⟨rfl, rfl⟩
      rw [h6]
      go_wp2
      go_ret
      exact ⟨_, rfl, HO.out, hx.out⟩

set_option maxRecDepth 100000 in
set_option maxHeartbeats 1600000 in
theorem same_any (va vb : Value) (la lb : List (List UInt8)) (w : World) (ha : Reads w va (la.map strV)) (hb : Reads w vb (lb.map strV)) :
    Calls Try.prog 17 #[va, vb] w fun e w' => e = .returned (.bool (decide (la = lb))) ∧ Ext w w' := by
  have hla := ha.length_le
  have hlb := hb.length_le
  obtain ⟨aa, ca, rfl⟩ := ha.shape
  obtain ⟨ab, cb, rfl⟩ := hb.shape
  rw [List.length_map] at *
  have HA := Lib.hid ha
  have HB := Lib.hid hb
  clear ha hb
  by_cases hl : la.length = lb.length
  · have hli : (la.length : Int) = (lb.length : Int) := by omega
    generalize hr : decide (la = lb) = r
    have HR := Lib.hid hr
    clear hr
    rw [hl] at HA ⊢
    go_enter Try.func17, Try.ntmps17
    go_wp2
    go_loopw [5] (fun iv wr => ∃ k : Nat, k ≤ lb.length ∧ iv = .int .i64 k ∧ Hid (la.take k = lb.take k) ∧ Hid (Ext w wr)) (fun iv _ => lb.length - (intOf iv).toNat)
    case atStart => exact ⟨0, by omega, rfl, rfl, Ext.refl w⟩
    case round =>
      obtain ⟨k, hk, rfl, htk, hx⟩ := hrel
      by_cases hlt : k < lb.length
      · have hlti : (k : Int) < (lb.length : Int) := by omega
        have hk1 : k < la.length := by omega
        obtain ⟨b1, o1, rfl, c1⟩ := HA.out.at k (by rw [List.length_map]; exact hk1)
        obtain ⟨b2, o2, rfl, c2⟩ := HB.out.at k (by rw [List.length_map]; exact hlt)
        rw [List.getElem_map] at c1 c2
        unfold strV at c1 c2
        replace c1 := hx.out.cell c1
        replace c2 := hx.out.cell c2
        have HX2 := Lib.hid (hx.out.trans (Ext.of_drew wr))
        have hst : Hid (la[k] = lb[k] → la.take (k + 1) = lb.take (k + 1)) := fun e => by
          rw [List.take_succ_eq_append_getElem hk1, List.take_succ_eq_append_getElem hlt, htk.out, e]
        have hno : Hid (la[k] ≠ lb[k] → r = false) := fun e => by
          rw [← HR.out, decide_eq_false_iff_not]
          intro h2; subst h2; exact e rfl
        clear hx htk
        generalize la[k] = S at *
        generalize lb[k] = T at *
        by_cases hST : S = T
        · have hst2 := Lib.hid (hst.out hST)
          subst hST
          clear hst hno
          go_wp2_with fail
          go_region
          go_wp2
          go_roundw
          case rel => exact ⟨k + 1, by omega, by go_num, hst2, HX2⟩
          case measure => (simp [intOf]; try omega)
        · have hrf := hno.out hST
          have hbe : (S == T) = false := by rw [beq_eq_false_iff_ne]; exact hST
          subst hrf
          clear hst hno
          go_wp2_with fail
          go_region
          go_wp2
          go_ret
          exact ⟨rfl, HX2.out⟩
      · have hrt : r = true := by
          rw [← HR.out, decide_eq_true_iff]
          have h1 := htk.out
          rw [List.take_of_length_le (by omega), List.take_of_length_le (by omega)] at h1
          exact h1
        subst hrt
        have HX2 := Lib.hid hx.out
        clear htk hx
        go_wp2
        go_ret
        exact ⟨rfl, HX2.out⟩
  · have hd : decide (la = lb) = false := by
      rw [decide_eq_false_iff_not]; intro e; exact hl (by rw [e])
    rw [hd]
    have hli : ((la.length : Int) == (lb.length : Int)) = false := by rw [beq_eq_false_iff_ne]; omega
    have hli2 : ((la.length : Int) != (lb.length : Int)) = true := by rw [bne_iff_ne]; omega
    clear hd hl
    go_enter Try.func17, Try.ntmps17
    go_wp2
    go_ret
    exact ⟨rfl, Ext.refl w⟩
end Go.Proofs.Ytmlancmcgcjodaa
