/- The walk of jetwaylaw01.WordUnlike: two numbers have two unlike texts, neither the beginning of the other. -/
import Derived.Test.YtnbadeaiocandaaAwake
import Derived.Test.YtnbadeaiocandaaLong
import Derived.Test.YtnbadeaiocandaaPlainB
import Derived.Test.YtnbadeaiocandaaWVars
namespace Go.Proofs.Ytnbadeaiocandaa
open Go.RowKit

/-- A piece of a row that reads. -/
theorem Bs.take {w : World} {a : Option Addr} {len cap : Nat} {l : List UInt8} (h : Bs w (.slice a len cap) l) (k : Nat) (hk : k ≤ len) : Bs w (.slice a k cap) (l.take k) := by
  obtain ⟨a', cap', hv, h1, h2, hn, h3, h4⟩ := h
  rw [List.length_map] at hv h1
  simp only [Value.slice.injEq] at hv
  obtain ⟨rfl, rfl, rfl⟩ := hv
  refine ⟨a, cap, by simp; omega, by simp; omega, h2, hn, bytes_one _, ?_⟩
  rcases h4 with h4 | ⟨b, off, hb, hc⟩
  · left
    have : l = [] := by simpa using h4
    subst this; simp
  · right
    refine ⟨b, off, hb, fun j u hj => hc j u ?_⟩
    have hj' := (List.getElem?_eq_some_iff.1 hj).1
    have hjk : j < k := by rw [List.length_map, List.length_take] at hj'; omega
    rw [List.map_take, List.getElem?_take, if_pos hjk] at hj
    exact hj

set_option maxRecDepth 100000 in
set_option maxHeartbeats 1600000 in
theorem wordUnlike_core (a b : Nat) (w : World) (ha : a < 18446744073709551616) (hb : b < 18446744073709551616) :
    Calls Try.prog 6 #[.int .u64 (a : Int), .int .u64 (b : Int)] w fun e w' => e = .returned (.bool true) ∧ Ext w w' := by
  go_enter Try.func6, Try.ntmps6
  go_wp2_with fail
  refine (awake w).mono ?_
  rintro e w1 ⟨rfl, hx1⟩
  have HX1 := Lib.hid hx1
  clear hx1
  go_wp2_with fail
  refine (var_any (.slice none 0 0) [] a w1 ha (Bs.nil _) (by simp)).mono ?_
  rintro e w2 ⟨v2, rfl, hown2, hx2⟩
  have hb2 := Bs.of_own hown2
  rw [List.nil_append] at hb2 hown2
  have hla := W.vb_len10 a ha
  obtain ⟨g2, cap2, rfl, _, _, hc2, hcm2, _⟩ := own_open hown2 hla.2
  have HX2 := Lib.hid (HX1.out.trans hx2)
  clear hown2 hx2
  have HB2 := Lib.hid hb2
  clear hb2
  go_wp2_with fail
  refine (var_any (.slice none 0 0) [] b w2 hb (Bs.nil _) (by simp)).mono ?_
  rintro e w3 ⟨v3, rfl, hown3, hx3⟩
  have hb3 := Bs.of_own hown3
  rw [List.nil_append] at hb3 hown3
  have hlb := W.vb_len10 b hb
  obtain ⟨g3, cap3, rfl, _, _, hc3, hcm3, _⟩ := own_open hown3 hlb.2
  have HX3 := Lib.hid (HX2.out.trans hx3)
  have HB2' := Lib.hid (HB2.out.ext hx3)
  clear hown3 hx3
  have HB3 := Lib.hid hb3
  clear hb3
  unfold maxLen at hcm2 hcm3
  have hs2 := ((HB2'.out).take (min (W.vb a).length (W.vb b).length) (Nat.min_le_left _ _)).str
  have hs3 := ((HB3.out).take (min (W.vb a).length (W.vb b).length) (Nat.min_le_right _ _)).str
  have hu := Lib.hid (W.vb_unlike a b ha hb)
  unfold Str at hs2 hs3
  have hx33 := Ext.of_drew w3
  generalize hA : (W.vb a).length = A at *
  generalize hB : (W.vb b).length = B at *
  have HA := Lib.hid hA
  have HB := Lib.hid hB
  clear hA hB
  have hla1 : (0 : Int) < (A : Int) := by omega
  have hlb1 : (0 : Int) < (B : Int) := by omega
  by_cases hAB : A ≤ B
  · rw [Nat.min_eq_left hAB] at hs2 hs3 hu
    have hi : (A : Int) ≤ (B : Int) := by omega
    have hq1 : (A : Int) ≤ (cap3 : Int) := by omega
    have hq2 : A ≤ cap3 := by omega
    by_cases hab : a = b
    · have e1 : ((a : Int) == (b : Int)) = true := by simp [hab]
      have e2 := hu.out.1 hab
      rw [e2] at hs2
      clear e2 hab
      go_wp2_with fail
      go_region_held3 (fun w' => Ext w3 w') (assumption) (fail)
      go_wp2
      go_ret
      exact ⟨rfl, HX3.out.drew⟩
    · have e1 : ((a : Int) == (b : Int)) = false := by simp; omega
      have e2 : ((W.vb a).take A == (W.vb b).take A) = false := by
        have h : ¬ (W.vb a).take A = (W.vb b).take A := fun h => hab (hu.out.2 h)
        simpa using h
      go_wp2_with fail
      go_region_held3 (fun w' => Ext w3 w') (assumption) (fail)
      go_wp2
      go_ret
      exact ⟨rfl, HX3.out.drew⟩
  · rw [Nat.min_eq_right (by omega)] at hs2 hs3 hu
    have hi : ¬ (A : Int) ≤ (B : Int) := by omega
    have hi2 : (B : Int) < (A : Int) := by omega
    have hq1 : (B : Int) ≤ (cap2 : Int) := by omega
    have hq2 : B ≤ cap2 := by omega
    have hab : ¬ a = b := by rintro rfl; have := HA.out; have := HB.out; omega
    have e1 : ((a : Int) == (b : Int)) = false := by simp; omega
    have e2 : ((W.vb a).take B == (W.vb b).take B) = false := by
      have h : ¬ (W.vb a).take B = (W.vb b).take B := fun h => hab (hu.out.2 h)
      simpa using h
    go_wp2_with fail
    go_region_held3 (fun w' => Ext w3 w') (assumption) (fail)
    go_wp2
    go_ret
    exact ⟨rfl, HX3.out.drew⟩

theorem walk_wordUnlike (a0 a1 : Int) (w : World) (h0 : (Lit.int .u64 a0).wf = true) (h1 : (Lit.int .u64 a1).wf = true) :
    Calls Try.prog 6 #[.int .u64 a0, .int .u64 a1] w fun e w' => e = .returned (.bool true) ∧ Ext w w' := by
  obtain ⟨a, rfl⟩ := Int.eq_ofNat_of_zero_le (wf_u64 h0).1
  obtain ⟨b, rfl⟩ := Int.eq_ofNat_of_zero_le (wf_u64 h1).1
  exact wordUnlike_core a b w (by have := (wf_u64 h0).2; omega) (by have := (wf_u64 h1).2; omega)
end Go.Proofs.Ytnbadeaiocandaa
