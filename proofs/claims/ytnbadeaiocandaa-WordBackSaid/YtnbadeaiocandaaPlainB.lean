/- Plain law: what was laid as a number is read as it was, whatever stands behind it; what was read is laid with just these bytes. -/
import Derived.Test.YtnbadeaiocandaaPlainW
namespace Go.Proofs.Ytnbadeaiocandaa
namespace W
theorem ofNat_toNat (n : Nat) (h : n < 256) : (UInt8.ofNat n).toNat = n := by simp; omega
theorem ofNat_of (x : UInt8) : UInt8.ofNat x.toNat = x := by
  apply UInt8.toNat_inj.1
  rw [ofNat_toNat _ x.toNat_lt]

theorem rv_vb (f : Nat) : ∀ (n i m : Nat) (r : List UInt8), n ≤ f → n * 128 ^ i < 18446744073709551616 → i ≤ 9 → (0 < i → 0 < n) → rv (vb n ++ r) i m = (m + n * 128 ^ i, i + (vb n).length, 0) := by
  induction f with
  | zero =>
    intro n i m r hf hb hi hz
    obtain rfl : n = 0 := by omega
    rw [vb_small 0 (by omega)]
    simp only [List.cons_append, List.nil_append]
    rw [rv_end _ _ _ _ (by rw [ofNat_toNat 0 (by omega)]; omega) (by rw [ofNat_toNat 0 (by omega)]; omega), ofNat_toNat 0 (by omega)]
    rfl
  | succ f ih =>
    intro n i m r hf hb hi hz
    have h9 : i = 9 → n < 2 := fun e => by
      subst e
      have h4 : (128 : Nat) ^ 9 = 9223372036854775808 := by decide
      rw [h4] at hb; omega
    by_cases h : n < 128
    · rw [vb_small n h]
      simp only [List.cons_append, List.nil_append]
      rw [rv_end _ _ _ _ (by rw [ofNat_toNat n (by omega)]; omega) (by rw [ofNat_toNat n (by omega)]; omega), ofNat_toNat n (by omega), Nat.mod_eq_of_lt h]
      rfl
    · rw [vb_more n h]
      simp only [List.cons_append, List.length_cons]
      have hd : n % 128 + 128 < 256 := by omega
      rw [rv_more _ _ _ _ (by rw [ofNat_toNat _ hd]; omega) (by rw [ofNat_toNat _ hd]; omega), ofNat_toNat _ hd]
      have hpow : (128 : Nat) ^ (i + 1) = 128 * 128 ^ i := by rw [Nat.pow_succ, Nat.mul_comm]
      have hdm : 128 * (n / 128) + n % 128 = n := Nat.div_add_mod n 128
      have e1 : n / 128 * 128 ^ (i + 1) + n % 128 * 128 ^ i = n * 128 ^ i := by
        rw [hpow, ← Nat.mul_assoc, ← Nat.add_mul]
        congr 1; omega
      rw [ih (n / 128) (i + 1) _ r (by omega) (by omega) (by omega) (fun _ => by omega)]
      have e2 : (n % 128 + 128) % 128 = n % 128 := by omega
      rw [e2]
      refine Prod.ext ?_ (Prod.ext ?_ rfl)
      · simp only; omega
      · simp only; omega
theorem rv_back (n : Nat) (r : List UInt8) (h : n < 18446744073709551616) : rv (vb n ++ r) 0 0 = (n, (vb n).length, 0) := by
  have := rv_vb n n 0 0 r (Nat.le_refl _) (by simpa using h) (by omega) (by omega)
  simpa using this

theorem rv_fwd : ∀ (l : List UInt8) (i m k s : Nat), rv l i m = (k, s, 0) → i ≤ 9 → m < 128 ^ i →
    k < 18446744073709551616 ∧ i < s ∧ s - i ≤ l.length ∧ ∃ n, k = m + n * 128 ^ i ∧ vb n = l.take (s - i) ∧ (0 < i → 0 < n) := by
  intro l
  induction l with
  | nil => intro i m k s h hi hm; simp [rv] at h
  | cons x r ih =>
    intro i m k s h hi hm
    have hx := x.toNat_lt
    by_cases hbad : (i = 9 ∧ 1 < x.toNat) ∨ (0 < i ∧ x.toNat = 0)
    · rw [rv_bad _ _ _ _ hbad] at h; simp at h
    · have hs := step_lt m i x.toNat hm hi hx (by omega)
      by_cases hlt : x.toNat < 128
      · rw [rv_end _ _ _ _ hbad hlt] at h
        simp only [Prod.mk.injEq, and_true] at h
        obtain ⟨rfl, rfl⟩ := h
        refine ⟨hs.1, by omega, by simp, x.toNat, by rw [Nat.mod_eq_of_lt hlt], ?_, by omega⟩
        rw [vb_small _ hlt, ofNat_of, show i + 1 - i = 1 by omega]; rfl
      · rw [rv_more _ _ _ _ hbad hlt] at h
        obtain ⟨h1, h2, h3, n, h4, h5, h6⟩ := ih (i + 1) _ k s h (by omega) hs.2
        have hn := h6 (by omega)
        have hpow : (128 : Nat) ^ (i + 1) = 128 * 128 ^ i := by rw [Nat.pow_succ, Nat.mul_comm]
        refine ⟨h1, by omega, by simp; omega, x.toNat % 128 + 128 * n, ?_, ?_, by omega⟩
        · rw [h4, hpow, Nat.add_mul, Nat.mul_comm 128 n, Nat.mul_assoc]; omega
        · rw [vb_more _ (by omega)]
          have e1 : (x.toNat % 128 + 128 * n) % 128 + 128 = x.toNat := by omega
          have e2 : (x.toNat % 128 + 128 * n) / 128 = n := by omega
          rw [e1, e2, ofNat_of, h5, show s - i = (s - (i + 1)) + 1 by omega, List.take_succ_cons]
/-- What is read with no error is laid with just these bytes. -/
theorem rv_same (l : List UInt8) (k s : Nat) (h : rv l 0 0 = (k, s, 0)) : k < 18446744073709551616 ∧ 1 ≤ s ∧ s ≤ l.length ∧ vb k = l.take s := by
  obtain ⟨h1, h2, h3, n, h4, h5, _⟩ := rv_fwd l 0 0 k s h (by omega) (by simp)
  have e : k = n := by simpa using h4
  subst e
  exact ⟨h1, by omega, by omega, by simpa using h5⟩
theorem rv_zero (l : List UInt8) : ∀ (i m : Nat), (rv l i m).2.2 ≠ 0 → (rv l i m).1 = 0 ∧ (rv l i m).2.1 = 0 := by
  induction l with
  | nil => intro i m _; simp [rv]
  | cons x r ih =>
    intro i m h
    by_cases hbad : (i = 9 ∧ 1 < x.toNat) ∨ (0 < i ∧ x.toNat = 0)
    · rw [rv_bad _ _ _ _ hbad]; simp
    · by_cases hlt : x.toNat < 128
      · rw [rv_end _ _ _ _ hbad hlt] at h; simp at h
      · rw [rv_more _ _ _ _ hbad hlt] at h ⊢; exact ih _ _ h
/-- Neither number's bytes are the beginning of another's. -/
theorem vb_unlike (a b : Nat) (ha : a < 18446744073709551616) (hb : b < 18446744073709551616) :
    a = b ↔ (vb a).take (min (vb a).length (vb b).length) = (vb b).take (min (vb a).length (vb b).length) := by
  constructor
  · rintro rfl; rfl
  · intro h
    rcases Nat.le_total (vb a).length (vb b).length with hl | hl
    · rw [Nat.min_eq_left hl, List.take_length] at h
      have h1 := rv_back a ((vb b).drop (vb a).length) ha
      have h2 := rv_back b [] hb
      have e := List.take_append_drop (vb a).length (vb b)
      rw [← h] at e
      rw [e] at h1
      rw [List.append_nil, h1] at h2
      exact (Prod.mk.inj h2).1
    · rw [Nat.min_eq_right hl, List.take_length] at h
      have h1 := rv_back b ((vb a).drop (vb b).length) hb
      have h2 := rv_back a [] ha
      have e := List.take_append_drop (vb b).length (vb a)
      rw [h] at e
      rw [e] at h1
      rw [List.append_nil, h1] at h2
      exact (Prod.mk.inj h2).1.symm
end W
end Go.Proofs.Ytnbadeaiocandaa
