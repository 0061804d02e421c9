/- The plain law of the log: a byte of a piece was turned. -/
import Derived.Test.YtmcmocakfhedfaaBegun
namespace Go.Proofs.Ytmcmocakfhedfaa
open Go.RowKit

namespace W5
theorem be4_inj {a b : Nat} (ha : a < 4294967296) (hb : b < 4294967296) (h : W.be 4 a = W.be 4 b) : a = b := by
  have h1 := W.num_be 4 a
  have h2 := W.num_be 4 b
  rw [h, h2] at h1
  have e : (256 : Nat) ^ 4 = 4294967296 := by decide
  rw [e, Nat.mod_eq_of_lt ha, Nat.mod_eq_of_lt hb] at h1
  exact h1.symm
/-- A sealed sector of which a byte was turned is sealed no more. -/
theorem turned_silent {s : List UInt8} (hl : s.length = 512) (hs : s = sealed (s.take 508)) (i : Nat) (hi : i < s.length) (y : UInt8) (hy : y ≠ s[i]) : tells (s.set i y) = false := by
  have h508 : (s.take 508).length = 508 := by rw [List.length_take]; omega
  have hset : ((s.set i y).take 508).length = 508 := by rw [List.length_take, List.length_set]; omega
  have hne : s.set i y ≠ s := by
    intro e
    have h1 : (s.set i y)[i]'(by rw [List.length_set]; exact hi) = y := List.getElem_set_self _
    have h2 : (s.set i y)[i]'(by rw [List.length_set]; exact hi) = s[i] := by simp only [e]
    exact hy (h1.symm.trans h2)
  unfold tells
  have : ¬ s.set i y = sealed ((s.set i y).take 508) := by
    intro e
    rcases Nat.lt_or_ge i 508 with h1 | h1
    · have e2 : (s.set i y).take 508 = (s.take 508).set i y := by rw [List.take_set]
      rw [sealed_full _ hset] at e
      rw [sealed_full _ h508] at hs
      have d1 : (s.set i y).drop 508 = W.be 4 (S.sum ((s.set i y).take 508)) := by
        conv => lhs; rw [e]
        exact List.drop_left' hset
      have d2 : s.drop 508 = W.be 4 (S.sum (s.take 508)) := by
        conv => lhs; rw [hs]
        exact List.drop_left' h508
      have d3 : (s.set i y).drop 508 = s.drop 508 := List.drop_set_of_lt h1
      rw [d3, d2] at d1
      have h3 := be4_inj (sum_lt _) (sum_lt _) d1
      rw [e2] at h3
      have h4 := (S.sum_set (s.take 508) i (by rw [h508]; exact h1) y).1 h3.symm
      rw [List.getElem_take] at h4
      exact hy h4
    · have e2 : (s.set i y).take 508 = s.take 508 := List.take_set_of_le h1
      rw [e2, ← hs] at e
      exact hne e
  rw [decide_eq_false this, Bool.and_false]
theorem sealed_self (x : List UInt8) (h : x.length ≤ 508) : sealed x = sealed ((sealed x).take 508) := (sealed_again x h).symm
theorem turned_law {d R : D.Dsk} {g : Nat} {recs : List (List UInt8)} (h : Live d g recs) (hok : D.Ok R) (hn : R.n = d.n) {wh : Nat} (hwh : wh < recs.length) {S : List UInt8} (hS : tells S = false)
    (hs : ∀ i : Nat, D.sector R (i : Int) = if i = areaAt d g + usedTo recs wh then S else D.sector d (i : Int)) : list R = recs.take wh ∧ current R = (g, true) ∧ Tb R g ∧ following R g = g + 1 := by
  have hge := areaAt_ge d g
  have hul := usedTo_lt recs wh 0 hwh (need_pos _)
  have hcur : current R = (g, true) := (current_congr (by rw [hs, if_neg (by omega)]) (by rw [hs, if_neg (by omega)])).trans h.cur
  have htb : Tb R g := by
    intro i hi ht
    rw [hs] at ht ⊢
    split
    · rename_i h1
      rw [if_pos h1, hS] at ht
      cases ht
    · rename_i h1
      rw [if_neg h1] at ht
      exact h.tb i (by rw [← hn]; exact hi) ht
  refine ⟨?_, hcur, htb, following_live (by rw [hn]; have := h.n4; omega) htb⟩
  have hut : used (recs.take wh) = usedTo recs wh := rfl
  have hus := usedTo_le recs wh
  have hlt : (recs.take wh).length = wh := by rw [List.length_take]; omega
  unfold W5.list
  rw [hcur, if_pos rfl]
  show read R g = recs.take wh
  refine read_back (fun b hb => h.len b (List.mem_of_mem_take hb)) (by rw [area_same hn, hut]; exact Nat.le_trans hus h.fit) ?_ ?_
  · intro k hk i hi
    rw [hlt] at hk
    have e1 : (recs.take wh)[k]'(by rw [hlt]; exact hk) = recs[k] := List.getElem_take
    have e2 : usedTo (recs.take wh) k = usedTo recs k := by unfold usedTo; rw [List.take_take, Nat.min_eq_left (Nat.le_of_lt hk)]
    rw [e1] at hi ⊢
    rw [e2, areaAt_same hn]
    have h1 := usedTo_succ recs k (by omega)
    have h2 : usedTo recs (k + 1) ≤ usedTo recs wh := by
      have := usedTo_le (recs.take wh) (k + 1)
      have e3 : usedTo (recs.take wh) (k + 1) = usedTo recs (k + 1) := by unfold usedTo; rw [List.take_take, Nat.min_eq_left hk]
      rw [e3] at this
      exact this
    rw [hs, if_neg (by omega)]
    exact h.pc k (by omega) i hi
  · rw [hlt, hut]
    cases hx : nextR R g wh (usedTo recs wh) with
    | none => rfl
    | some x =>
      exfalso
      have h1 := nextR_fits hok hx 0 (need_pos _)
      rw [areaAt_same hn, Nat.add_zero, hs, if_pos rfl] at h1
      rw [h1, piece_tells] at hS
      cases hS
theorem write_flush {d : D.Dsk} (hw : d.wait = []) (hd : d.down = false) (ha : d.armed = false) (I : Nat) (hI : (I : Int) < d.n) (S : List UInt8) (hS : S.length = 512) :
    D.writeE d (I : Int) S = 0 ∧ D.flushE (D.write d (I : Int) S) = 0 ∧ (D.flush (D.write d (I : Int) S)).n = d.n ∧ (D.flush (D.write d (I : Int) S)).wait = [] ∧ (D.flush (D.write d (I : Int) S)).down = false ∧ (D.flush (D.write d (I : Int) S)).armed = false ∧
    ∀ i : Nat, D.sector (D.flush (D.write d (I : Int) S)) (i : Int) = if i = I then S else D.sector d (i : Int) := by
  obtain ⟨w1, w2, w3, w4⟩ := wr_spec (d := d) (I : Int) S (by omega) hI hS hd
  rcases w4 with ⟨w4, w5, w6⟩ | ⟨_, _, w6⟩
  · obtain ⟨f1, f2⟩ := fl_spec (D.write d (I : Int) S)
    rcases f2 with ⟨f2, f3, f4, f5, f6⟩ | ⟨_, _, _, _, f6⟩
    · refine ⟨w4, f2, f1.trans w3, f4, f5, f6.trans (w6.trans ha), fun i => ?_⟩
      rw [sector_img f4, sector_img hw]
      unfold img
      rw [f3, w1, w2, hw, List.nil_append, over_one]
      by_cases h : i = I
      · rw [if_pos h, if_pos (by omega)]; rfl
      · rw [if_neg h, if_neg (by omega)]
    · rcases f6 with f6 | f6
      · rw [w6, ha] at f6; cases f6
      · rw [w5] at f6; cases f6
  · rw [ha] at w6; cases w6
end W5
theorem xor_u8 (x : UInt8) (m : Int) (h1 : 0 ≤ m) (h2 : m < 256) : bits BinOp.xor IntKind.u8 (x.toNat : Int) m = ((x ^^^ UInt8.ofNat m.toNat).toNat : Int) := by
  obtain ⟨k, rfl⟩ : ∃ k : Nat, m = (k : Int) := ⟨m.toNat, by omega⟩
  have hx := x.toNat_lt
  have e1 : (BitVec.ofInt 8 (x.toNat : Int)).toNat = x.toNat := by
    rw [BitVec.ofInt_natCast, BitVec.toNat_ofNat]; exact Nat.mod_eq_of_lt (by omega)
  have e2 : (BitVec.ofInt 8 (k : Int)).toNat = k := by
    rw [BitVec.ofInt_natCast, BitVec.toNat_ofNat]; exact Nat.mod_eq_of_lt (by omega)
  have hb : x.toNat ^^^ k < 2 ^ 8 := Nat.xor_lt_two_pow (by omega) (by omega)
  show IntKind.u8.wrap ((BitVec.ofInt 8 (x.toNat : Int) ^^^ BitVec.ofInt 8 (k : Int)).toNat : Int) = _
  rw [BitVec.toNat_xor, e1, e2, IntKind.wrap_u8', UInt8.toNat_xor]
  have e3 : (UInt8.ofNat (k : Int).toNat).toNat = k := by simp; omega
  rw [e3]
  omega
theorem xor_ne (x : UInt8) (m : Int) (h1 : 0 < m) (h2 : m < 256) : x ^^^ UInt8.ofNat m.toNat ≠ x := by
  intro e
  have e1 : x ^^^ UInt8.ofNat m.toNat = x ^^^ 0 := by rw [e]; simp
  have e2 : UInt8.ofNat m.toNat = 0 := (UInt8.xor_right_inj x).1 e1
  have e3 : (UInt8.ofNat m.toNat).toNat = 0 := by rw [e2]; rfl
  simp at e3
  omega
end Go.Proofs.Ytmcmocakfhedfaa
