/- Plain arithmetic and lists for layer 1 (word): numbers as bytes and reading them back; nothing of the program stands here. -/
import Derived.WalkKit
namespace Go.Proofs.Ytmcmocakfhedfaa
namespace W

theorem add_mul_or (m y j : Nat) (hm : m < 2 ^ j) : m ||| (y * 2 ^ j) = m + y * 2 ^ j := by
  rw [Nat.or_comm, Nat.mul_comm y, ← Nat.two_pow_add_eq_or_of_lt hm y]; omega

/-- The bytes of a number. -/
def vb (n : Nat) : List UInt8 := if n < 128 then [UInt8.ofNat n] else UInt8.ofNat (n % 128 + 128) :: vb (n / 128)
termination_by n
decreasing_by omega
theorem vb_small (n : Nat) (h : n < 128) : vb n = [UInt8.ofNat n] := by rw [vb]; simp [h]
theorem vb_more (n : Nat) (h : ¬ n < 128) : vb n = UInt8.ofNat (n % 128 + 128) :: vb (n / 128) := by rw [vb]; simp [h]
theorem vb_length (k n : Nat) (h : n < 128 ^ (k + 1)) : (vb n).length ≤ k + 1 ∧ 0 < (vb n).length := by
  induction k generalizing n with
  | zero => rw [vb_small n (by simpa using h)]; simp
  | succ k ih =>
    by_cases h1 : n < 128
    · rw [vb_small n h1]; simp
    · rw [vb_more n h1]
      have := ih (n / 128) (by rw [Nat.div_lt_iff_lt_mul (by omega)]; rw [Nat.pow_succ] at h; exact h)
      simp; omega
theorem vb_len10 (n : Nat) (h : n < 18446744073709551616) : (vb n).length ≤ 10 ∧ 0 < (vb n).length := vb_length 9 n (by
  have : (128 : Nat) ^ (9 + 1) = 1180591620717411303424 := by decide
  omega)
theorem u8_of (n : Nat) : ((UInt8.ofNat n).toNat : Int) = ((n % 256 : Nat) : Int) := by simp
/-- 'byte(n) | 128'. -/
theorem or128 (n : Nat) : bits BinOp.or IntKind.u8 (IntKind.u8.wrap (n : Int)) 128 = ((UInt8.ofNat (n % 128 + 128)).toNat : Int) := by
  have e : IntKind.u8.wrap (n : Int) = ((n % 256 : Nat) : Int) := by rw [IntKind.wrap_u8']; omega
  rw [e, show (128 : Int) = ((128 : Nat) : Int) from rfl, u8_or_nat _ _ (by omega) (by omega), u8_of]
  have h1 : n % 256 ||| 128 = n % 128 + 128 := by
    have h2 : n % 256 < 256 := by omega
    have h3 : n % 128 = (n % 256) % 128 := by omega
    rw [h3]
    generalize n % 256 = m at h2
    have : ∀ m : Fin 256, m.val ||| 128 = m.val % 128 + 128 := by decide +kernel
    exact this ⟨m, h2⟩
  rw [h1]
  omega
theorem wrap_u8_nat (n : Nat) : IntKind.u8.wrap (n : Int) = ((UInt8.ofNat n).toNat : Int) := by rw [IntKind.wrap_u8', u8_of]; omega

/-- What is read: the number, how many bytes, the error's number. -/
def rv : List UInt8 → Nat → Nat → Nat × Nat × Nat
  | [], _, _ => (0, 0, 5)
  | x :: r, i, n => if (i = 9 ∧ 1 < x.toNat) ∨ (0 < i ∧ x.toNat = 0) then (0, 0, 4) else
      if x.toNat < 128 then (n + x.toNat % 128 * 128 ^ i, i + 1, 0) else rv r (i + 1) (n + x.toNat % 128 * 128 ^ i)

theorem rv_nil (i n : Nat) : rv [] i n = (0, 0, 5) := rfl
theorem rv_bad (x : UInt8) (r : List UInt8) (i n : Nat) (h : (i = 9 ∧ 1 < x.toNat) ∨ (0 < i ∧ x.toNat = 0)) : rv (x :: r) i n = (0, 0, 4) := by simp [rv, h]
theorem rv_end (x : UInt8) (r : List UInt8) (i n : Nat) (h : ¬ ((i = 9 ∧ 1 < x.toNat) ∨ (0 < i ∧ x.toNat = 0))) (h2 : x.toNat < 128) : rv (x :: r) i n = (n + x.toNat % 128 * 128 ^ i, i + 1, 0) := by simp [rv, h, h2]
theorem rv_more (x : UInt8) (r : List UInt8) (i n : Nat) (h : ¬ ((i = 9 ∧ 1 < x.toNat) ∨ (0 < i ∧ x.toNat = 0))) (h2 : ¬ x.toNat < 128) : rv (x :: r) i n = rv r (i + 1) (n + x.toNat % 128 * 128 ^ i) := by simp [rv, h, h2]

theorem drop_cons (l : List UInt8) (k : Nat) (h : k < l.length) : l.drop k = l[k] :: l.drop (k + 1) := (List.drop_eq_getElem_cons h)

theorem pow_lt (i : Nat) (h : i ≤ 9) : (128 : Nat) ^ i ≤ 9223372036854775808 := by
  have : (128 : Nat) ^ i ≤ 128 ^ 9 := Nat.pow_le_pow_right (by omega) h
  simpa using this
/-- The step of the number that is read stays within 64 bits. -/
theorem step_lt (n i x : Nat) (hn : n < 128 ^ i) (hi : i ≤ 9) (hx : x < 256) (h9 : i = 9 → x ≤ 1) : n + x % 128 * 128 ^ i < 18446744073709551616 ∧ n + x % 128 * 128 ^ i < 128 ^ (i + 1) := by
  have h1 : x % 128 * 128 ^ i ≤ 127 * 128 ^ i := Nat.mul_le_mul_right _ (by omega)
  have h2 : (128 : Nat) ^ (i + 1) = 128 * 128 ^ i := by rw [Nat.pow_succ]; omega
  refine ⟨?_, by omega⟩
  by_cases e : i = 9
  · subst e
    have := h9 rfl
    have h3 : x % 128 * 128 ^ 9 ≤ 1 * 128 ^ 9 := Nat.mul_le_mul_right _ (by omega)
    have h4 : (128 : Nat) ^ 9 = 9223372036854775808 := by decide
    omega
  · have h5 : (128 : Nat) ^ (i + 1) ≤ 128 ^ 9 := Nat.pow_le_pow_right (by omega) (by omega)
    have h4 : (128 : Nat) ^ 9 = 9223372036854775808 := by decide
    omega

/-- 'n | (x & 127) << 7 i' of a byte that keeps within 64 bits. -/
theorem or_shl (m x k : Nat) (hx : x < 256) (hm : m < 128 ^ k) (hk : k ≤ 9) (h9 : k = 9 → x ≤ 1) :
    bits BinOp.or IntKind.u64 (m : Int) (IntKind.u64.wrap (IntKind.u64.wrap (bits BinOp.and IntKind.u8 (x : Int) 127) * 2 ^ (7 * k))) = ((m + x % 128 * 128 ^ k : Nat) : Int) := by
  have e1 : bits BinOp.and IntKind.u8 (x : Int) 127 = ((x % 128 : Nat) : Int) := by
    rw [show (127 : Int) = ((127 : Nat) : Int) from rfl, u8_and_nat x 127 hx (by omega), show (127 : Nat) = 2 ^ 7 - 1 from rfl, Nat.and_two_pow_sub_one_eq_mod]
  have hp := pow_lt k hk
  have hs := step_lt m k x hm hk hx h9
  have e2 : IntKind.u64.wrap ((x % 128 : Nat) : Int) = ((x % 128 : Nat) : Int) := by rw [IntKind.wrap_u64]; omega
  have e3 : (2 : Nat) ^ (7 * k) = 128 ^ k := by rw [Nat.pow_mul]
  have e4 : (((x % 128 : Nat) : Int) * 2 ^ (7 * k)) = ((x % 128 * 128 ^ k : Nat) : Int) := by
    rw [← e3]; simp
  have hb : x % 128 * 128 ^ k < 18446744073709551616 := by omega
  rw [e1, e2, e4, IntKind.wrap_u64]
  have e5 : ((x % 128 * 128 ^ k : Nat) : Int) % 18446744073709551616 = ((x % 128 * 128 ^ k : Nat) : Int) := by omega
  rw [e5, bits_or_u64_nat _ _ (by omega) hb, ← e3, add_mul_or _ _ _ (by rw [e3]; exact hm)]

end W
end Go.Proofs.Ytmcmocakfhedfaa
