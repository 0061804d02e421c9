/- The plain law of the log: what is read back. -/
import Derived.Test.YtmcmocakfhedfaaWalP
namespace Go.Proofs.Ytmcmocakfhedfaa
open Go.RowKit

namespace W5
/-- No sector tells of more than B. -/
def Tb (d : D.Dsk) (B : Nat) : Prop := ∀ i : Nat, (i : Int) < d.n → tells (D.sector d (i : Int)) = true → told (D.sector d (i : Int)) ≤ B
/-- The pieces of records stand from sector s on. -/
def Pc (d : D.Dsk) (s gen : Nat) (ls : List (List UInt8)) : Prop := ∀ k (h : k < ls.length), ∀ i, i < need ls[k].length → D.sector d ((s + usedTo ls k + i : Nat) : Int) = piece gen k i ls[k]
theorem need_mul (n : Nat) : n ≤ need n * 491 := by unfold need; split <;> omega
theorem nextB_pieces (d : D.Dsk) (gen k s : Nat) (b : List UInt8) (h : ∀ i, i < need b.length → D.sector d ((s + i : Nat) : Int) = piece gen k i b) : ∀ j, j ≤ need b.length → nextB d s b.length j = b.take (j * 491)
  | 0, _ => by rw [Nat.zero_mul]; rfl
  | j + 1, hj => by
    show nextB d s b.length j ++ ((D.sector d ((s + j : Nat) : Int)).drop 17).take (min 491 (b.length - j * 491)) = _
    rw [nextB_pieces d gen k s b h j (by omega), h j hj, piece_body _ _ _ _ _ rfl, Nat.add_mul, Nat.one_mul, List.take_add]
    congr 1
    rcases Nat.le_total 491 (b.length - j * 491) with h1 | h1
    · rw [Nat.min_eq_left h1]
    · rw [Nat.min_eq_right h1, List.take_of_length_le (by rw [List.length_drop]; exact Nat.le_refl _), List.take_of_length_le (by rw [List.length_drop]; exact h1)]
theorem nextR_hit {d : D.Dsk} {gen k at_ : Nat} {b : List UInt8} (hb : b.length ≤ 8192) (hat : at_ + need b.length ≤ area d)
    (h : ∀ i, i < need b.length → D.sector d ((areaAt d gen + at_ + i : Nat) : Int) = piece gen k i b) : nextR d gen k at_ = some b := by
  have hp := need_pos b.length
  have h0 := h 0 hp
  rw [Nat.add_zero] at h0
  have hs : size4 (D.sector d ((areaAt d gen + at_ : Nat) : Int)) = b.length := by rw [h0]; exact piece_size _ _ _ _ hb
  have hn := nextB_pieces d gen k (areaAt d gen + at_) b h (need b.length) (Nat.le_refl _)
  rw [List.take_of_length_le (need_mul _)] at hn
  unfold nextR
  rw [hs, if_neg (by omega), if_neg (by omega), hn, if_pos]
  exact decide_eq_true h
theorem nextR_fits {d : D.Dsk} (hok : D.Ok d) {gen k at_ : Nat} {b : List UInt8} (h : nextR d gen k at_ = some b) : ∀ i, i < need b.length → D.sector d ((areaAt d gen + at_ + i : Nat) : Int) = piece gen k i b := by
  unfold nextR at h
  split at h
  · cases h
  · split at h
    · cases h
    · split at h
      · rename_i hf
        obtain rfl := Option.some.inj h
        rw [nextB_all d hok]
        exact of_decide_eq_true hf
      · cases h
theorem read_back {d : D.Dsk} {gen : Nat} {ls : List (List UInt8)} (hl : ∀ b ∈ ls, b.length ≤ 8192) (hu : used ls ≤ area d) (hp : Pc d (areaAt d gen) gen ls) (hn : nextR d gen ls.length (used ls) = none) : read d gen = ls := by
  have key : ∀ j, j ≤ ls.length → ∀ f, j < f → readF d gen f (ls.length - j) (usedTo ls (ls.length - j)) = ls.drop (ls.length - j) := by
    intro j
    induction j with
    | zero =>
      intro _ f _
      rw [Nat.sub_zero, usedTo_all, readF_none hn, List.drop_length]
    | succ j ih =>
      intro hj f hf
      obtain ⟨f, rfl⟩ : ∃ f', f = f' + 1 := ⟨f - 1, by omega⟩
      have hk : ls.length - (j + 1) < ls.length := by omega
      have e : ls.length - (j + 1) + 1 = ls.length - j := by omega
      have hus := usedTo_succ ls _ hk
      have hul := usedTo_le ls (ls.length - (j + 1) + 1)
      have hh := nextR_hit (d := d) (gen := gen) (k := ls.length - (j + 1)) (at_ := usedTo ls (ls.length - (j + 1))) (b := ls[ls.length - (j + 1)]) (hl _ (List.getElem_mem hk)) (by omega) (hp _ hk)
      rw [readF_some hh, ← hus, e, ih (by omega) f (by omega), ← e]
      exact (List.drop_eq_getElem_cons hk).symm
  have h := key ls.length (Nat.le_refl _) (area d + 1) (by have := len_le_used ls; omega)
  rw [Nat.sub_self, List.drop_zero] at h
  exact h
theorem readF_used {d : D.Dsk} (hok : D.Ok d) (gen : Nat) : ∀ f n at_, at_ ≤ area d → at_ + used (readF d gen f n at_) ≤ area d ∧ ∀ b ∈ readF d gen f n at_, b.length ≤ 8192
  | 0, n, at_, h => ⟨h, fun b hb => by cases hb⟩
  | f + 1, n, at_, h => by
    cases hn : nextR d gen n at_ with
    | none => rw [readF_none hn]; exact ⟨h, fun b hb => by cases hb⟩
    | some b =>
      obtain ⟨h1, h2⟩ := nextR_some hok hn
      obtain ⟨h3, h4⟩ := readF_used hok gen f (n + 1) (at_ + need b.length) h1
      rw [readF_some hn]
      have e : used (b :: readF d gen f (n + 1) (at_ + need b.length)) = need b.length + used (readF d gen f (n + 1) (at_ + need b.length)) := rfl
      refine ⟨by rw [e]; omega, fun x hx => ?_⟩
      rcases List.mem_cons.1 hx with rfl | hx
      · exact h2
      · exact h4 x hx
theorem list_used {d : D.Dsk} (hok : D.Ok d) : used (list d) ≤ area d ∧ ∀ b ∈ list d, b.length ≤ 8192 := by
  unfold list
  split
  · have := readF_used hok (current d).1 (area d + 1) 0 0 (Nat.zero_le _)
    rw [Nat.zero_add] at this
    exact this
  · exact ⟨Nat.zero_le _, fun b hb => by cases hb⟩
theorem current_live {d : D.Dsk} {g : Nat} (hn : 4 ≤ d.n) (hg : g < 4294967296) (hh : D.sector d ((g % 2 : Nat) : Int) = head g) (ht : Tb d g) : current d = (g, true) := by
  have t0 : tells (D.sector d ((0 : Nat) : Int)) = true → told (D.sector d ((0 : Nat) : Int)) ≤ g := ht 0 (by omega)
  have t1 : tells (D.sector d ((1 : Nat) : Int)) = true → told (D.sector d ((1 : Nat) : Int)) ≤ g := ht 1 (by omega)
  have e : current d = curStep d (curStep d (0, false) 0) 1 := rfl
  rw [e]
  rcases Nat.mod_two_eq_zero_or_one g with h2 | h2
  · rw [h2] at hh
    have h0 : curStep d (0, false) 0 = (g, true) := by
      unfold curStep
      rw [hh, head_told g hg, if_pos ⟨h2, rfl, .inl rfl⟩]
    rw [h0]
    unfold curStep
    rw [if_neg]
    rintro ⟨a, b, c⟩
    have hb := head_tells (told (D.sector d ((1 : Nat) : Int)))
    rw [← b] at hb
    have h9 := t1 hb
    rcases c with c | c
    · cases c
    · simp only at c; omega
  · rw [h2] at hh
    have h0 : (curStep d (0, false) 0).2 = false ∨ (curStep d (0, false) 0).1 < g := by
      unfold curStep
      split
      · rename_i hc
        obtain ⟨a, b, c⟩ := hc
        have hb := head_tells (told (D.sector d ((0 : Nat) : Int)))
        rw [← b] at hb
        have := t0 hb
        right
        simp only
        omega
      · exact .inl rfl
    generalize curStep d (0, false) 0 = x at *
    unfold curStep
    rw [hh, head_told g hg, if_pos ⟨h2, rfl, h0⟩]
theorem folTo_ge (d : D.Dsk) (g : Nat) : ∀ k : Nat, g ≤ folTo d g k
  | 0 => Nat.le_refl _
  | k + 1 => by
    have h := folTo_ge d g k
    rw [folTo_succ]
    split
    · omega
    · exact h
theorem folTo_told (d : D.Dsk) (g : Nat) : ∀ k i : Nat, i < k → tells (D.sector d (i : Int)) = true → told (D.sector d (i : Int)) ≤ folTo d g k
  | k + 1, i, hi, ht => by
    rw [folTo_succ]
    rcases Nat.lt_succ_iff_lt_or_eq.1 hi with hi | rfl
    · have h := folTo_told d g k i hi ht
      split
      · omega
      · exact h
    · rw [if_pos ht]; omega
theorem folTo_le (d : D.Dsk) (g B : Nat) (hg : g ≤ B) (h : Tb d B) : ∀ k : Nat, (k : Int) ≤ d.n → folTo d g k ≤ B
  | 0, _ => hg
  | k + 1, hk => by
    have h1 := folTo_le d g B hg h k (by omega)
    rw [folTo_succ]
    split
    · rename_i ht
      have := h k (by omega) ht
      omega
    · exact h1
theorem following_spec (d : D.Dsk) (g B : Nat) (hn : 0 ≤ d.n) (hg : g ≤ B) (h : Tb d B) : g < following d g ∧ following d g ≤ B + 2 ∧ following d g % 2 ≠ g % 2 ∧ Tb d (following d g - 1) := by
  have h1 := folTo_ge d g d.n.toNat
  have h2 := folTo_le d g B hg h d.n.toNat (by omega)
  have h3 : Tb d (folTo d g d.n.toNat) := fun i hi ht => folTo_told d g d.n.toNat i (by omega) ht
  unfold following
  refine ⟨by omega, by split <;> omega, by split <;> omega, fun i hi ht => ?_⟩
  have := h3 i hi ht
  omega
theorem following_live {d : D.Dsk} {g : Nat} (hn : 0 ≤ d.n) (ht : Tb d g) : following d g = g + 1 := by
  have h1 := folTo_ge d g d.n.toNat
  have h2 := folTo_le d g g (Nat.le_refl _) ht d.n.toNat (by omega)
  have h3 : folTo d g d.n.toNat = g := by omega
  unfold following
  rw [h3, if_pos rfl]
end W5
end Go.Proofs.Ytmcmocakfhedfaa
