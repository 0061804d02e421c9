/- The plain law of the log: what lies there behind writes, and behind a crash. -/
import Derived.Test.YtmcmocakfhedfaaWalQ
namespace Go.Proofs.Ytmcmocakfhedfaa
open Go.RowKit

namespace W5
def img (f : Int → Option (List UInt8)) (i : Int) : List UInt8 := (f i).getD (List.replicate 512 0)
theorem sector_img {d : D.Dsk} (h : d.wait = []) (i : Int) : D.sector d i = img d.safe i := by unfold D.sector; rw [h]; rfl
/-- Rows of bytes as writes from sector s on. -/
def ents : Nat → List (List UInt8) → List (Int × List UInt8)
  | _, [] => []
  | s, c :: C => ((s : Int), c) :: ents (s + 1) C
theorem ents_append (s : Nat) (A B : List (List UInt8)) : ents s (A ++ B) = ents s A ++ ents (s + A.length) B := by
  induction A generalizing s with
  | nil => rfl
  | cons a A ih =>
    show _ :: ents (s + 1) (A ++ B) = _ :: (ents (s + 1) A ++ _)
    rw [ih, List.length_cons]
    congr 3
    omega
theorem over_append (f : Int → Option (List UInt8)) (A B : List (Int × List UInt8)) : D.over f (A ++ B) = D.over (D.over f A) B := by unfold D.over; rw [List.foldl_append]
theorem over_ents (f : Int → Option (List UInt8)) (s : Nat) (C : List (List UInt8)) (i : Nat) : D.over f (ents s C) (i : Int) = if h : s ≤ i ∧ i < s + C.length then some (C[i - s]'(by omega)) else f (i : Int) := by
  induction C generalizing s f with
  | nil =>
    rw [dif_neg (by simp only [List.length_nil]; omega)]
    rfl
  | cons c C ih =>
    have e : D.over f (ents s (c :: C)) = D.over (fun j => if j = (s : Int) then some c else f j) (ents (s + 1) C) := rfl
    rw [e, ih]
    by_cases h1 : s + 1 ≤ i ∧ i < s + 1 + C.length
    · rw [dif_pos h1, dif_pos (by rw [List.length_cons]; omega)]
      have e2 : i - s = (i - (s + 1)) + 1 := by omega
      congr 1
      simp only [e2, List.getElem_cons_succ]
    · rw [dif_neg h1]
      by_cases h2 : i = s
      · subst h2
        rw [if_pos rfl, dif_pos (by rw [List.length_cons]; omega)]
        simp
      · rw [if_neg (by omega), dif_neg (by rw [List.length_cons]; omega)]
theorem over_one (f : Int → Option (List UInt8)) (s : Int) (c : List UInt8) (i : Int) : D.over f [(s, c)] i = if i = s then some c else f i := rfl
theorem over_kept (f : Int → Option (List UInt8)) (s : Nat) (C : List (List UInt8)) (ks : List Bool) (i : Nat) : D.over f (D.kept (ents s C) ks) (i : Int) = f (i : Int) ∨ ∃ h : s ≤ i ∧ i < s + C.length, D.over f (D.kept (ents s C) ks) (i : Int) = some (C[i - s]'(by omega)) := by
  induction C generalizing s f ks with
  | nil => left; cases ks <;> rfl
  | cons c C ih =>
    cases ks with
    | nil => exact .inl rfl
    | cons b ks =>
      have lift : ∀ g : Int → Option (List UInt8), g (i : Int) = f (i : Int) ∨ (i = s ∧ g (i : Int) = some c) → D.over f (D.kept (ents s (c :: C)) (b :: ks)) = D.over g (D.kept (ents (s + 1) C) ks) →
          D.over f (D.kept (ents s (c :: C)) (b :: ks)) (i : Int) = f (i : Int) ∨ ∃ h : s ≤ i ∧ i < s + (c :: C).length, D.over f (D.kept (ents s (c :: C)) (b :: ks)) (i : Int) = some ((c :: C)[i - s]'(by omega)) := by
        intro g hg e
        rw [e]
        rcases ih g (s + 1) ks with h | ⟨h, h2⟩
        · rw [h]
          rcases hg with hg | ⟨rfl, hg⟩
          · exact .inl hg
          · refine .inr ⟨by rw [List.length_cons]; omega, ?_⟩
            rw [hg]; simp
        · refine .inr ⟨by rw [List.length_cons]; omega, ?_⟩
          rw [h2]
          have e2 : i - s = (i - (s + 1)) + 1 := by omega
          simp only [e2, List.getElem_cons_succ]
      cases b
      · exact lift f (.inl rfl) rfl
      · refine lift (fun j => if j = (s : Int) then some c else f j) ?_ rfl
        by_cases h : i = s
        · subst h; exact .inr ⟨rfl, if_pos rfl⟩
        · exact .inl (if_neg (by omega))

theorem wr_spec {d : D.Dsk} (i : Int) (s : List UInt8) (h1 : 0 ≤ i) (h2 : i < d.n) (h3 : s.length = 512) (hd : d.down = false) :
    (D.write d i s).wait = d.wait ++ [(i, s)] ∧ (D.write d i s).safe = d.safe ∧ (D.write d i s).n = d.n ∧
    ((D.writeE d i s = 0 ∧ (D.write d i s).down = false ∧ (D.write d i s).armed = d.armed) ∨ (D.writeE d i s = 3 ∧ (D.write d i s).down = true ∧ d.armed = true)) := by
  obtain ⟨e1, e2⟩ := D.write_not (d := d) (i := i) (s := s) (by rw [hd]; simp; omega)
  rw [e1, e2]
  unfold D.done D.goes
  rw [hd]
  cases ha : d.armed
  · simp [ha, hd]
  · by_cases h : d.after = 0
    · simp [h]
    · simp [h, ha, hd]
theorem fl_spec (d : D.Dsk) :
    (D.flush d).n = d.n ∧ ((D.flushE d = 0 ∧ (D.flush d).safe = D.over d.safe d.wait ∧ (D.flush d).wait = [] ∧ (D.flush d).down = false ∧ (D.flush d).armed = d.armed) ∨ (D.flushE d = 3 ∧ (D.flush d).safe = d.safe ∧ (D.flush d).wait = d.wait ∧ (D.flush d).down = true ∧ (d.armed = true ∨ d.down = true))) := by
  unfold D.flushE D.flush D.done D.goes
  cases hd : d.down
  · cases ha : d.armed
    · simp [ha, hd]
    · by_cases h : d.after = 0
      · simp [h]
      · simp [h, ha, hd]
  · simp [hd]
/-- X is d behind some of the writes C from sector s on. -/
def Run (d X : D.Dsk) (e : Int) (s : Nat) (C : List (List UInt8)) : Prop :=
  X.safe = d.safe ∧ X.n = d.n ∧ ∃ m, m ≤ C.length ∧ X.wait = d.wait ++ ents s (C.take m) ∧ ((e = 0 ∧ m = C.length ∧ X.down = false ∧ X.armed = d.armed) ∨ (e = 3 ∧ X.down = true ∧ d.armed = true))
theorem Run.nil {d : D.Dsk} (s : Nat) (hd : d.down = false) : Run d d 0 s [] := ⟨rfl, rfl, 0, Nat.le_refl _, by simp [ents], .inl ⟨rfl, rfl, hd, rfl⟩⟩
theorem Run.stop {d X : D.Dsk} {e : Int} {s : Nat} {C : List (List UInt8)} (h : Run d X e s C) (he : e ≠ 0) (C' : List (List UInt8)) : Run d X e s (C ++ C') := by
  obtain ⟨h1, h2, m, h3, h4, h5⟩ := h
  refine ⟨h1, h2, m, by rw [List.length_append]; omega, by rw [h4, List.take_append_of_le_length h3], ?_⟩
  rcases h5 with ⟨h5, _⟩ | h5
  · exact absurd h5 he
  · exact .inr h5
theorem Run.app {d X X' : D.Dsk} {e : Int} {s : Nat} {C C' : List (List UInt8)} (h : Run d X 0 s C) (h' : Run X X' e (s + C.length) C') : Run d X' e s (C ++ C') := by
  obtain ⟨h1, h2, m, h3, h4, h5⟩ := h
  obtain ⟨k1, k2, m', k3, k4, k5⟩ := h'
  rcases h5 with ⟨_, rfl, h6, h7⟩ | ⟨h5, _⟩
  · refine ⟨k1.trans h1, k2.trans h2, C.length + m', by rw [List.length_append]; omega, ?_, ?_⟩
    · rw [k4, h4, List.take_length, List.take_length_add_append, ents_append, List.append_assoc]
    · rcases k5 with ⟨a, rfl, b, c⟩ | ⟨a, b, c⟩
      · exact .inl ⟨a, by rw [List.length_append], b, c.trans h7⟩
      · exact .inr ⟨a, b, h7 ▸ c⟩
  · cases h5
theorem Run.up {d X : D.Dsk} {e : Int} {s : Nat} {C : List (List UInt8)} (h : Run d X e s C) (h0 : e = 0) : X.down = false := by
  obtain ⟨_, _, m, _, _, h5⟩ := h
  rcases h5 with ⟨_, _, h6, _⟩ | ⟨h5, _⟩
  · exact h6
  · rw [h0] at h5; cases h5
/-- The pieces of a record. -/
def recP (gen record : Nat) (b : List UInt8) (k : Nat) : List (List UInt8) := (List.range k).map (fun i => piece gen record i b)
theorem recP_len (gen record : Nat) (b : List UInt8) (k : Nat) : (recP gen record b k).length = k := by unfold recP; rw [List.length_map, List.length_range]
theorem recP_succ (gen record : Nat) (b : List UInt8) (k : Nat) : recP gen record b (k + 1) = recP gen record b k ++ [piece gen record k b] := by unfold recP; rw [List.range_succ, List.map_append]; rfl
theorem recP_get (gen record : Nat) (b : List UInt8) (k i : Nat) (h : i < (recP gen record b k).length) : (recP gen record b k)[i] = piece gen record i b := by simp only [recP, List.getElem_map, List.getElem_range]
theorem layTo_run {d : D.Dsk} (hd : d.down = false) (gen record s : Nat) (b : List UInt8) : ∀ k : Nat, ((s + k : Nat) : Int) ≤ d.n → Run d (layTo d gen record s b k).1 (layTo d gen record s b k).2 s (recP gen record b k)
  | 0, _ => Run.nil s hd
  | k + 1, hk => by
    have h := layTo_run hd gen record s b k (by omega)
    rw [recP_succ]
    by_cases h0 : (layTo d gen record s b k).2 = 0
    · have e : layTo d gen record s b (k + 1) = (D.write (layTo d gen record s b k).1 ((s + k : Nat) : Int) (piece gen record k b), D.writeE (layTo d gen record s b k).1 ((s + k : Nat) : Int) (piece gen record k b)) := if_pos h0
      rw [e]
      have hup := h.up h0
      rw [h0] at h
      have hn := layTo_n d gen record s b k
      refine h.app ?_
      rw [recP_len]
      obtain ⟨w1, w2, w3, w4⟩ := wr_spec (d := (layTo d gen record s b k).1) ((s + k : Nat) : Int) (piece gen record k b) (by omega) (by rw [hn]; omega) (piece_len _ _ _ _) hup
      refine ⟨w2, w3, 1, Nat.le_refl _, w1, ?_⟩
      rcases w4 with ⟨a, b, c⟩ | ⟨a, b, c⟩
      · exact .inl ⟨a, rfl, b, c⟩
      · exact .inr ⟨a, b, c⟩
    · have e : layTo d gen record s b (k + 1) = layTo d gen record s b k := if_neg h0
      rw [e]
      exact h.stop h0 _
/-- The pieces of the first k records. -/
def allP (gen : Nat) (ls : List (List UInt8)) : Nat → List (List UInt8)
  | 0 => []
  | k + 1 => allP gen ls k ++ recP gen k (ls.getD k []) (need (ls.getD k []).length)
theorem getD_eq (ls : List (List UInt8)) (k : Nat) (h : k < ls.length) : ls.getD k [] = ls[k] := by rw [List.getD_eq_getElem?_getD, List.getElem?_eq_getElem h]; rfl
theorem allP_len (gen : Nat) (ls : List (List UInt8)) : ∀ k, k ≤ ls.length → (allP gen ls k).length = usedTo ls k
  | 0, _ => rfl
  | k + 1, h => by
    rw [usedTo_succ ls k h, allP, List.length_append, recP_len, allP_len gen ls k (by omega), getD_eq ls k h]
theorem allP_get (gen : Nat) (ls : List (List UInt8)) : ∀ m, (hm : m ≤ ls.length) → ∀ k (h : k < m), ∀ i, i < need (ls[k]'(by omega)).length → ∃ h' : usedTo ls k + i < (allP gen ls m).length, (allP gen ls m)[usedTo ls k + i] = piece gen k i (ls[k]'(by omega))
  | m + 1, hm, k, hk, i, hi => by
    have hl := allP_len gen ls m (by omega)
    rcases Nat.lt_succ_iff_lt_or_eq.1 hk with hk | rfl
    · obtain ⟨h1, h2⟩ := allP_get gen ls m (by omega) k hk i hi
      refine ⟨by rw [allP, List.length_append]; omega, ?_⟩
      simp only [allP]
      rw [List.getElem_append_left h1]
      exact h2
    · have hg := getD_eq ls k (by omega)
      refine ⟨by rw [allP, List.length_append, recP_len, hl, hg]; omega, ?_⟩
      simp only [allP]
      rw [List.getElem_append_right (by omega), recP_get, hl, hg]
      congr 1
      omega
theorem area_n (d : D.Dsk) : 2 * area d + 2 ≤ d.n.toNat ∨ area d = 0 := by
  unfold area areaI
  split <;> omega
theorem areaAt_le (d : D.Dsk) (gen : Nat) : areaAt d gen + area d ≤ 2 * area d + 2 := by
  have e : areaAt d gen = 2 + gen % 2 * area d := rfl
  rw [e]
  have : gen % 2 = 0 ∨ gen % 2 = 1 := by omega
  rcases this with h | h <;> rw [h] <;> omega
theorem begTo_run {d : D.Dsk} (hd : d.down = false) (gen : Nat) (ls : List (List UInt8)) (hu : used ls ≤ area d) : ∀ k : Nat, k ≤ ls.length → Run d (begTo d gen ls k).1 (begTo d gen ls k).2 (areaAt d gen) (allP gen ls k)
  | 0, _ => Run.nil _ hd
  | k + 1, hk => by
    have h := begTo_run hd gen ls hu k (by omega)
    have hg := getD_eq ls k hk
    have hn := begTo_n d gen ls k
    have hus := usedTo_succ ls k hk
    have hul := usedTo_le ls (k + 1)
    have ha := areaAt_le d gen
    have han := area_n d
    have hnp := need_pos ls[k].length
    by_cases h0 : (begTo d gen ls k).2 = 0
    · have e : begTo d gen ls (k + 1) = lay (begTo d gen ls k).1 gen k (usedTo ls k) (ls.getD k []) := if_pos h0
      have hup := h.up h0
      rw [h0] at h
      rw [e]
      refine h.app ?_
      rw [allP_len gen ls k (by omega)]
      have ea : areaAt (begTo d gen ls k).1 gen = areaAt d gen := by unfold areaAt area; rw [hn]
      unfold lay
      rw [ea]
      refine layTo_run hup gen k (areaAt d gen + usedTo ls k) (ls.getD k []) (need (ls.getD k []).length) ?_
      rw [hn, hg]
      omega
    · have e : begTo d gen ls (k + 1) = begTo d gen ls k := if_neg h0
      rw [e]
      exact h.stop h0 _
end W5
end Go.Proofs.Ytmcmocakfhedfaa
