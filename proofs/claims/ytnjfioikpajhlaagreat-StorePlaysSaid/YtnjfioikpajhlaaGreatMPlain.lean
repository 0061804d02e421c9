/- MPlain: PlainW PlainS PlainB PlainT PlainU. -/
import Derived.WalkKit
set_option maxRecDepth 100000
set_option maxHeartbeats 64000000
namespace Go.Proofs.YtnjfioikpajhlaaGreat
namespace W
theorem add_mul_or (m y j : Nat) (hm : m < 2 ^ j) : m ||| (y * 2 ^ j) = m + y * 2 ^ j := by
 rw [Nat.or_comm, Nat.mul_comm y, <- Nat.two_pow_add_eq_or_of_lt hm y]; omega
def vb (n : Nat) : List UInt8 := if n < 128 then [UInt8.ofNat n] else UInt8.ofNat (n % 128 + 128) :: vb (n / 128)
termination_by n
decreasing_by omega
theorem vb_small (n : Nat) (h : n < 128) : vb n = [UInt8.ofNat n] := by rw [vb]; simp [h]
theorem vb_more (n : Nat) (h : ¬ n < 128) : vb n = UInt8.ofNat (n % 128 + 128) :: vb (n / 128) := by rw [vb]; simp [h]
theorem vb_length (k n : Nat) (h : n < 128 ^ (k + 1)) : (vb n).length <= k + 1 /\ 0 < (vb n).length := by
 induction k generalizing n with
 | zero => rw [vb_small n (by simpa using h)]; simp
 | succ k ih =>
  by_cases h1 : n < 128
  ·rw [vb_small n h1]; simp
  ·rw [vb_more n h1]
   have := ih (n / 128) (by rw [Nat.div_lt_iff_lt_mul (by omega)]; rw [Nat.pow_succ] at h; exact h)
   simp; omega
theorem vb_len10 (n : Nat) (h : n < 18446744073709551616) : (vb n).length <= 10 /\ 0 < (vb n).length := vb_length 9 n (by
 have : (128 : Nat) ^ (9 + 1) = 1180591620717411303424 := by decide
 omega)
theorem u8_of (n : Nat) : ((UInt8.ofNat n).toNat : Int) = ((n % 256 : Nat) : Int) := by simp
theorem or128 (n : Nat) : bits BinOp.or IntKind.u8 (IntKind.u8.wrap (n : Int)) 128 = ((UInt8.ofNat (n % 128 + 128)).toNat : Int) := by
 have e : IntKind.u8.wrap (n : Int) = ((n % 256 : Nat) : Int) := by rw [IntKind.wrap_u8']; omega
 rw [e, show (128 : Int) = ((128 : Nat) : Int) from rfl, u8_or_nat _ _ (by omega) (by omega), u8_of]
 have h1 : n % 256 ||| 128 = n % 128 + 128 := by
  have h2 : n % 256 < 256 := by omega
  have h3 : n % 128 = (n % 256) % 128 := by omega
  rw [h3]
  generalize n % 256 = m at h2
  have : ∀ m : Fin 256, m.val ||| 128 = m.val % 128 + 128 := by decide +kernel
  exact this ⟨m, h2⟩
 rw [h1]
 omega
def rv : List UInt8 -> Nat -> Nat -> Nat × Nat × Nat
 | [], _, _ => (0, 0, 5)
 | x :: r, i, n => if (i = 9 /\ 1 < x.toNat) ∨ (0 < i /\ x.toNat = 0) then (0, 0, 4) else
  if x.toNat < 128 then (n + x.toNat % 128 * 128 ^ i, i + 1, 0) else rv r (i + 1) (n + x.toNat % 128 * 128 ^ i)
theorem rv_nil (i n : Nat) : rv [] i n = (0, 0, 5) := rfl
theorem rv_bad (x : UInt8) (r : List UInt8) (i n : Nat) (h : (i = 9 /\ 1 < x.toNat) ∨ (0 < i /\ x.toNat = 0)) : rv (x :: r) i n = (0, 0, 4) := by simp [rv, h]
theorem rv_end (x : UInt8) (r : List UInt8) (i n : Nat) (h : ¬ ((i = 9 /\ 1 < x.toNat) ∨ (0 < i /\ x.toNat = 0))) (h2 : x.toNat < 128) : rv (x :: r) i n = (n + x.toNat % 128 * 128 ^ i, i + 1, 0) := by simp [rv, h, h2]
theorem rv_more (x : UInt8) (r : List UInt8) (i n : Nat) (h : ¬ ((i = 9 /\ 1 < x.toNat) ∨ (0 < i /\ x.toNat = 0))) (h2 : ¬ x.toNat < 128) : rv (x :: r) i n = rv r (i + 1) (n + x.toNat % 128 * 128 ^ i) := by simp [rv, h, h2]
theorem drop_cons (l : List UInt8) (k : Nat) (h : k < l.length) : l.drop k = l[k] :: l.drop (k + 1) := (List.drop_eq_getElem_cons h)
theorem pow_lt (i : Nat) (h : i <= 9) : (128 : Nat) ^ i <= 9223372036854775808 := by
 have : (128 : Nat) ^ i <= 128 ^ 9 := Nat.pow_le_pow_right (by omega) h
 simpa using this
theorem step_lt (n i x : Nat) (hn : n < 128 ^ i) (hi : i <= 9) (hx : x < 256) (h9 : i = 9 -> x <= 1) : n + x % 128 * 128 ^ i < 18446744073709551616 /\ n + x % 128 * 128 ^ i < 128 ^ (i + 1) := by
 have h1 : x % 128 * 128 ^ i <= 127 * 128 ^ i := Nat.mul_le_mul_right _ (by omega)
 have h2 : (128 : Nat) ^ (i + 1) = 128 * 128 ^ i := by rw [Nat.pow_succ]; omega
 refine ⟨?_, by omega⟩
 by_cases e : i = 9
 ·subst e
  have := h9 rfl
  have h3 : x % 128 * 128 ^ 9 <= 1 * 128 ^ 9 := Nat.mul_le_mul_right _ (by omega)
  have h4 : (128 : Nat) ^ 9 = 9223372036854775808 := by decide
  omega
 ·have h5 : (128 : Nat) ^ (i + 1) <= 128 ^ 9 := Nat.pow_le_pow_right (by omega) (by omega)
  have h4 : (128 : Nat) ^ 9 = 9223372036854775808 := by decide
  omega
theorem or_shl (m x k : Nat) (hx : x < 256) (hm : m < 128 ^ k) (hk : k <= 9) (h9 : k = 9 -> x <= 1) :
 bits BinOp.or IntKind.u64 (m : Int) (IntKind.u64.wrap (IntKind.u64.wrap (bits BinOp.and IntKind.u8 (x : Int) 127) * 2 ^ (7 * k))) = ((m + x % 128 * 128 ^ k : Nat) : Int) := by
 have e1 : bits BinOp.and IntKind.u8 (x : Int) 127 = ((x % 128 : Nat) : Int) := by
  rw [show (127 : Int) = ((127 : Nat) : Int) from rfl, u8_and_nat x 127 hx (by omega), show (127 : Nat) = 2 ^ 7 - 1 from rfl, Nat.and_two_pow_sub_one_eq_mod]
 have hp := pow_lt k hk
 have hs := step_lt m k x hm hk hx h9
 have e2 : IntKind.u64.wrap ((x % 128 : Nat) : Int) = ((x % 128 : Nat) : Int) := by rw [IntKind.wrap_u64]; omega
 have e3 : (2 : Nat) ^ (7 * k) = 128 ^ k := by rw [Nat.pow_mul]
 have e4 : (((x % 128 : Nat) : Int) * 2 ^ (7 * k)) = ((x % 128 * 128 ^ k : Nat) : Int) := by
  rw [<- e3]; simp
 have hb : x % 128 * 128 ^ k < 18446744073709551616 := by omega
 rw [e1, e2, e4, IntKind.wrap_u64]
 have e5 : ((x % 128 * 128 ^ k : Nat) : Int) % 18446744073709551616 = ((x % 128 * 128 ^ k : Nat) : Int) := by omega
 rw [e5, bits_or_u64_nat _ _ (by omega) hb, <- e3, add_mul_or _ _ _ (by rw [e3]; exact hm)]
end W
end Go.Proofs.YtnjfioikpajhlaaGreat
namespace Go.Proofs.YtnjfioikpajhlaaGreat
namespace S
def poly : BitVec 32 := 3988292384#32
def st (c : BitVec 32) : BitVec 32 := (c >>> 1) ^^^ (if c.getLsbD 0 then poly else 0#32)
def stN : Nat -> BitVec 32 -> BitVec 32
 | 0, c => c
 | k + 1, c => st (stN k c)
def by1 (c : BitVec 32) (x : UInt8) : BitVec 32 := stN 8 (c ^^^ BitVec.ofNat 32 x.toNat)
def run (c : BitVec 32) (l : List UInt8) : BitVec 32 := l.foldl by1 c
def sum (l : List UInt8) : Nat := (~~~ (run (~~~ 0#32) l)).toNat
theorem run_append (c : BitVec 32) (a b : List UInt8) : run c (a ++ b) = run (run c a) b := by simp [run]
theorem run_snoc (c : BitVec 32) (a : List UInt8) (x : UInt8) : run c (a ++ [x]) = by1 (run c a) x := by simp [run]
def rst (x k : Nat) (c : BitVec 32) : BitVec 32 := if (x / 2 ^ k % 2 == 1) = c.getLsbD 0 then c >>> 1 else (c >>> 1) ^^^ poly
def rstN (x : Nat) : Nat -> BitVec 32 -> BitVec 32
 | 0, c => c
 | k + 1, c => rst x k (rstN x k c)
theorem rst_st (x k : Nat) (hx : x < 256) (c d : BitVec 32) (h : c = d ^^^ BitVec.ofNat 32 (x / 2 ^ k)) : st c = rst x k d ^^^ BitVec.ofNat 32 (x / 2 ^ (k + 1)) := by
 subst h
 have e1 : (BitVec.ofNat 32 (x / 2 ^ k)) >>> 1 = BitVec.ofNat 32 (x / 2 ^ (k + 1)) := by
  apply BitVec.eq_of_toNat_eq
  have h1 : x / 2 ^ k <= x := Nat.div_le_self _ _
  have h2 : x / 2 ^ (k + 1) <= x := Nat.div_le_self _ _
  rw [BitVec.toNat_ushiftRight, BitVec.toNat_ofNat, BitVec.toNat_ofNat, Nat.mod_eq_of_lt (by omega), Nat.mod_eq_of_lt (by omega), Nat.shiftRight_eq_div_pow, Nat.div_div_eq_div_mul, <- Nat.pow_add]
 have e2 : (BitVec.ofNat 32 (x / 2 ^ k)).getLsbD 0 = (x / 2 ^ k % 2 == 1) := by
  rw [BitVec.getLsbD_ofNat]
  simp [Nat.testBit_zero]
  cases h : decide (x / 2 ^ k % 2 = 1) <;> simp_all
 unfold st rst
 rw [BitVec.ushiftRight_xor_distrib, e1, BitVec.getLsbD_xor, e2]
 cases (x / 2 ^ k % 2 == 1) <;> cases d.getLsbD 0 <;> simp [BitVec.xor_assoc, BitVec.xor_comm poly]
theorem rstN_stN (x : Nat) (hx : x < 256) (c : BitVec 32) (k : Nat) : stN k (c ^^^ BitVec.ofNat 32 x) = rstN x k c ^^^ BitVec.ofNat 32 (x / 2 ^ k) := by
 induction k with
 | zero => simp [stN, rstN]
 | succ k ih => exact rst_st x k hx _ _ ih
theorem by1_rstN (c : BitVec 32) (x : UInt8) : by1 c x = rstN x.toNat 8 c := by
 have hx := x.toNat_lt
 unfold by1
 rw [rstN_stN _ hx]
 have e : x.toNat / 2 ^ 8 = 0 := by omega
 rw [e]; simp
theorem ofInt32 (c : BitVec 32) : BitVec.ofInt 32 (c.toNat : Int) = c := by
 rw [BitVec.ofInt_natCast, BitVec.ofNat_toNat, BitVec.setWidth_eq]
theorem wrap32 (c : BitVec 32) : IntKind.u32.wrap (c.toNat : Int) = (c.toNat : Int) := by
 have := c.isLt
 rw [IntKind.wrap_u32']; omega
theorem xor32 (a b : BitVec 32) : bits BinOp.xor IntKind.u32 (a.toNat : Int) (b.toNat : Int) = ((a ^^^ b).toNat : Int) := by
 show IntKind.u32.wrap ((BitVec.ofInt 32 (a.toNat : Int) ^^^ BitVec.ofInt 32 (b.toNat : Int)).toNat : Int) = _
 rw [ofInt32, ofInt32, wrap32]
theorem and32 (a b : BitVec 32) : bits BinOp.and IntKind.u32 (a.toNat : Int) (b.toNat : Int) = ((a &&& b).toNat : Int) := by
 show IntKind.u32.wrap ((BitVec.ofInt 32 (a.toNat : Int) &&& BitVec.ofInt 32 (b.toNat : Int)).toNat : Int) = _
 rw [ofInt32, ofInt32, wrap32]
theorem neg32 (a : BitVec 32) : IntKind.u32.wrap (-(a.toNat : Int)) = ((-a).toNat : Int) := by
 have h := a.isLt
 rw [IntKind.wrap_u32', BitVec.toNat_neg]
 by_cases h0 : a.toNat = 0
 ·simp [h0]
 ·rw [Nat.mod_eq_of_lt (by omega)]; omega
theorem shr1 (a : BitVec 32) : (a.toNat : Int) / (2 : Int) = ((a >>> 1).toNat : Int) := by
 rw [BitVec.toNat_ushiftRight, Nat.shiftRight_eq_div_pow]; omega
theorem low1 (a : BitVec 32) : a &&& 1#32 = if a.getLsbD 0 then 1#32 else 0#32 := by
 apply BitVec.eq_of_getLsbD_eq
 intro i hi
 match i with
 | 0 => simp; split <;> simp_all
 | i + 1 => simp; split <;> simp
theorem st_eq (c : BitVec 32) : (c >>> 1) ^^^ (3988292384#32 &&& -(c &&& 1#32)) = st c := by
 unfold st
 rw [low1]
 cases c.getLsbD 0
 ·simp
 ·simp [poly]
theorem st_walk (c : BitVec 32) : bits BinOp.xor IntKind.u32 ((c.toNat : Int) / 2) (bits BinOp.and IntKind.u32 3988292384 (IntKind.u32.wrap (-(bits BinOp.and IntKind.u32 (c.toNat : Int) 1)))) = ((st c).toNat : Int) := by
 have h1 := and32 c 1#32
 have h2 := and32 3988292384#32 (-(c &&& 1#32))
 have e1 : ((1#32).toNat : Int) = 1 := by decide
 have e2 : ((3988292384#32).toNat : Int) = 3988292384 := by decide
 rw [e1] at h1
 rw [e2] at h2
 rw [h1, neg32, h2, shr1, xor32, st_eq]
end S
end Go.Proofs.YtnjfioikpajhlaaGreat
namespace Go.Proofs.YtnjfioikpajhlaaGreat
namespace W
theorem ofNat_toNat (n : Nat) (h : n < 256) : (UInt8.ofNat n).toNat = n := by simp; omega
theorem ofNat_of (x : UInt8) : UInt8.ofNat x.toNat = x := by
 apply UInt8.toNat_inj.1
 rw [ofNat_toNat _ x.toNat_lt]
theorem rv_vb (f : Nat) : ∀ (n i m : Nat) (r : List UInt8), n <= f -> n * 128 ^ i < 18446744073709551616 -> i <= 9 -> (0 < i -> 0 < n) -> rv (vb n ++ r) i m = (m + n * 128 ^ i, i + (vb n).length, 0) := by
 induction f with
 | zero =>
  intro n i m r hf hb hi hz
  obtain rfl : n = 0 := by omega
  rw [vb_small 0 (by omega)]
  simp only [List.cons_append, List.nil_append]
  rw [rv_end _ _ _ _ (by rw [ofNat_toNat 0 (by omega)]; omega) (by rw [ofNat_toNat 0 (by omega)]; omega), ofNat_toNat 0 (by omega)]
  rfl
 | succ f ih =>
  intro n i m r hf hb hi hz
  have h9 : i = 9 -> n < 2 := fun e => by
   subst e
   have h4 : (128 : Nat) ^ 9 = 9223372036854775808 := by decide
   rw [h4] at hb; omega
  by_cases h : n < 128
  ·rw [vb_small n h]
   simp only [List.cons_append, List.nil_append]
   rw [rv_end _ _ _ _ (by rw [ofNat_toNat n (by omega)]; omega) (by rw [ofNat_toNat n (by omega)]; omega), ofNat_toNat n (by omega), Nat.mod_eq_of_lt h]
   rfl
  ·rw [vb_more n h]
   simp only [List.cons_append, List.length_cons]
   have hd : n % 128 + 128 < 256 := by omega
   rw [rv_more _ _ _ _ (by rw [ofNat_toNat _ hd]; omega) (by rw [ofNat_toNat _ hd]; omega), ofNat_toNat _ hd]
   have hpow : (128 : Nat) ^ (i + 1) = 128 * 128 ^ i := by rw [Nat.pow_succ, Nat.mul_comm]
   have hdm : 128 * (n / 128) + n % 128 = n := Nat.div_add_mod n 128
   have e1 : n / 128 * 128 ^ (i + 1) + n % 128 * 128 ^ i = n * 128 ^ i := by
    rw [hpow, <- Nat.mul_assoc, <- Nat.add_mul]
    congr 1; omega
   rw [ih (n / 128) (i + 1) _ r (by omega) (by omega) (by omega) (fun _ => by omega)]
   have e2 : (n % 128 + 128) % 128 = n % 128 := by omega
   rw [e2]
   refine Prod.ext ?_ (Prod.ext ?_ rfl)
   ·simp only; omega
   ·simp only; omega
theorem rv_back (n : Nat) (r : List UInt8) (h : n < 18446744073709551616) : rv (vb n ++ r) 0 0 = (n, (vb n).length, 0) := by
 have := rv_vb n n 0 0 r (Nat.le_refl _) (by simpa using h) (by omega) (by omega)
 simpa using this
theorem rv_fwd : ∀ (l : List UInt8) (i m k s : Nat), rv l i m = (k, s, 0) -> i <= 9 -> m < 128 ^ i ->
 k < 18446744073709551616 /\ i < s /\ s - i <= l.length /\ ∃ n, k = m + n * 128 ^ i /\ vb n = l.take (s - i) /\ (0 < i -> 0 < n) := by
 intro l
 induction l with
 | nil => intro i m k s h hi hm; simp [rv] at h
 | cons x r ih =>
  intro i m k s h hi hm
  have hx := x.toNat_lt
  by_cases hbad : (i = 9 /\ 1 < x.toNat) ∨ (0 < i /\ x.toNat = 0)
  ·rw [rv_bad _ _ _ _ hbad] at h; simp at h
  ·have hs := step_lt m i x.toNat hm hi hx (by omega)
   by_cases hlt : x.toNat < 128
   ·rw [rv_end _ _ _ _ hbad hlt] at h
    simp only [Prod.mk.injEq, and_true] at h
    obtain ⟨rfl, rfl⟩ := h
    refine ⟨hs.1, by omega, by simp, x.toNat, by rw [Nat.mod_eq_of_lt hlt], ?_, by omega⟩
    rw [vb_small _ hlt, ofNat_of, show i + 1 - i = 1 by omega]; rfl
   ·rw [rv_more _ _ _ _ hbad hlt] at h
    obtain ⟨h1, h2, h3, n, h4, h5, h6⟩ := ih (i + 1) _ k s h (by omega) hs.2
    have hn := h6 (by omega)
    have hpow : (128 : Nat) ^ (i + 1) = 128 * 128 ^ i := by rw [Nat.pow_succ, Nat.mul_comm]
    refine ⟨h1, by omega, by simp; omega, x.toNat % 128 + 128 * n, ?_, ?_, by omega⟩
    ·rw [h4, hpow, Nat.add_mul, Nat.mul_comm 128 n, Nat.mul_assoc]; omega
    ·rw [vb_more _ (by omega)]
     have e1 : (x.toNat % 128 + 128 * n) % 128 + 128 = x.toNat := by omega
     have e2 : (x.toNat % 128 + 128 * n) / 128 = n := by omega
     rw [e1, e2, ofNat_of, h5, show s - i = (s - (i + 1)) + 1 by omega, List.take_succ_cons]
theorem rv_same (l : List UInt8) (k s : Nat) (h : rv l 0 0 = (k, s, 0)) : k < 18446744073709551616 /\ 1 <= s /\ s <= l.length /\ vb k = l.take s := by
 obtain ⟨h1, h2, h3, n, h4, h5, _⟩ := rv_fwd l 0 0 k s h (by omega) (by simp)
 have e : k = n := by simpa using h4
 subst e
 exact ⟨h1, by omega, by omega, by simpa using h5⟩
end W
end Go.Proofs.YtnjfioikpajhlaaGreat
namespace Go.Proofs.YtnjfioikpajhlaaGreat
namespace S6
abbrev Key := List UInt8
theorem lt_irr (a : Key) : ¬ a < a := List.lt_irrefl a
theorem lt_tr {a b c : Key} (h : a < b) (k : b < c) : a < c := List.lt_trans h k
theorem lt_tri (a b : Key) : a < b ∨ a = b ∨ b < a := by
 rcases Classical.em (a < b) with h | h
 ·exact .inl h
 ·rcases Classical.em (b < a) with k | k
  ·exact .inr (.inr k)
  ·exact .inr (.inl (List.le_antisymm (List.not_lt.1 k) (List.not_lt.1 h)))
theorem lt_asy {a b : Key} (h : a < b) : ¬ b < a := fun k => lt_irr a (lt_tr h k)
theorem lt_le_tr {a b c : Key} (h : a < b) (k : ¬ c < b) : a < c := by
 rcases lt_tri b c with h1 | rfl | h1
 ·exact lt_tr h h1
 ·exact h
 ·exact absurd h1 k
structure Pr where
 key : Key
 val : List UInt8
 ver : Nat
def Srt (l : List Pr) : Prop := l.Pairwise (fun a b => a.key < b.key)
def ins (l : List Pr) (p : Pr) : List Pr := l.filter (fun a => decide (a.key < p.key)) ++ p :: l.filter (fun a => decide (p.key < a.key))
def del (l : List Pr) (k : Key) : List Pr := l.filter (fun a => decide (a.key < k)) ++ l.filter (fun a => decide (k < a.key))
def look (l : List Pr) (k : Key) : Option Pr := l.find? (fun a => decide (a.key = k))
theorem Srt.filter {l : List Pr} (h : Srt l) (f : Pr -> Bool) : Srt (l.filter f) := List.Pairwise.filter f h
theorem ins_srt {l : List Pr} (h : Srt l) (p : Pr) : Srt (ins l p) := by
 unfold ins Srt
 rw [List.pairwise_append, List.pairwise_cons]
 refine ⟨h.filter _, ⟨fun a ha => ?_, h.filter _⟩, fun a ha b hb => ?_⟩
 ·simpa using (List.mem_filter.1 ha).2
 ·have h1 : a.key < p.key := by simpa using (List.mem_filter.1 ha).2
  rcases List.mem_cons.1 hb with rfl | hb
  ·exact h1
  ·exact lt_tr h1 (by simpa using (List.mem_filter.1 hb).2)
theorem del_srt {l : List Pr} (h : Srt l) (k : Key) : Srt (del l k) := by
 unfold del Srt
 rw [List.pairwise_append]
 refine ⟨h.filter _, h.filter _, fun a ha b hb => ?_⟩
 have h1 : a.key < k := by simpa using (List.mem_filter.1 ha).2
 exact lt_tr h1 (by simpa using (List.mem_filter.1 hb).2)
theorem filter_split {A B : List Pr} {k : Key} (hA : ∀ a ∈ A, a.key < k) (hB : ∀ b ∈ B, ¬ b.key < k) : (A ++ B).filter (fun a => decide (a.key < k)) = A := by
 rw [List.filter_append, List.filter_eq_self.2 (by intro a ha; simpa using hA a ha), List.filter_eq_nil_iff.2 (by intro b hb; simpa using hB b hb), List.append_nil]
theorem filter_split' {A B : List Pr} {k : Key} (hA : ∀ a ∈ A, ¬ k < a.key) (hB : ∀ b ∈ B, k < b.key) : (A ++ B).filter (fun a => decide (k < a.key)) = B := by
 rw [List.filter_append, List.filter_eq_nil_iff.2 (by intro b hb; simpa using hA b hb), List.filter_eq_self.2 (by intro a ha; simpa using hB a ha), List.nil_append]
theorem ins_parts {A M B : List Pr} {p : Pr} (hA : ∀ a ∈ A, a.key < p.key) (hM : ∀ a ∈ M, a.key = p.key) (hB : ∀ b ∈ B, p.key < b.key) : ins (A ++ (M ++ B)) p = A ++ p :: B := by
 unfold ins
 rw [filter_split hA (fun b hb => by
  rcases List.mem_append.1 hb with hb | hb
  ·rw [hM b hb]; exact lt_irr _
  ·exact lt_asy (hB b hb)), <- List.append_assoc, filter_split' (fun a ha => by
  rcases List.mem_append.1 ha with ha | ha
  ·exact lt_asy (hA a ha)
  ·rw [hM a ha]; exact lt_irr _) hB]
theorem del_parts {A M B : List Pr} {k : Key} (hA : ∀ a ∈ A, a.key < k) (hM : ∀ a ∈ M, a.key = k) (hB : ∀ b ∈ B, k < b.key) : del (A ++ (M ++ B)) k = A ++ B := by
 unfold del
 rw [filter_split hA (fun b hb => by
  rcases List.mem_append.1 hb with hb | hb
  ·rw [hM b hb]; exact lt_irr _
  ·exact lt_asy (hB b hb)), <- List.append_assoc, filter_split' (fun a ha => by
  rcases List.mem_append.1 ha with ha | ha
  ·exact lt_asy (hA a ha)
  ·rw [hM a ha]; exact lt_irr _) hB]
abbrev Idx := List (List Pr)
structure IOk (x : Idx) : Prop where
 ne : ∀ p ∈ x, p ≠ []
 srt : Srt x.flatten
def le0 (key : Key) (pg : List Pr) : Bool := match pg with
 | [] => true
 | a :: _ => !decide (key < a.key)
def pageNo (x : Idx) (key : Key) : Nat := x.countP (le0 key) - 1
def atNo (pg : List Pr) (key : Key) : Nat := pg.countP (fun a => decide (a.key < key))
theorem countP_split {α : Type} (f : α -> Bool) : ∀ (l : List α) (n : Nat), n <= l.length -> (∀ i (h : i < l.length), i < n -> f l[i] = true) -> (∀ i (h : i < l.length), n <= i -> f l[i] = false) -> l.countP f = n
 | [], n, hn, _, _ => by simp at hn; subst hn; rfl
 | a :: l, 0, _, _, h2 => by
  have ha : f a = false := h2 0 (by simp) (Nat.le_refl _)
  rw [List.countP_cons_of_neg (by simp [ha])]
  exact countP_split f l 0 (Nat.zero_le _) (fun i _ h => absurd h (Nat.not_lt_zero _)) (fun i h _ => h2 (i + 1) (by simp; exact h) (Nat.zero_le _))
 | a :: l, n + 1, hn, h1, h2 => by
  have ha : f a = true := h1 0 (by simp) (by omega)
  rw [List.countP_cons_of_pos ha, countP_split f l n (by simpa using hn) (fun i h hi => h1 (i + 1) (by simp; exact h) (by omega)) (fun i h hi => h2 (i + 1) (by simp; exact h) (by omega))]
theorem countP_mono {α : Type} (f : α -> Bool) : ∀ (l : List α), (∀ i j (h : j < l.length) (hij : i <= j), f l[j] = true -> f (l[i]'(Nat.lt_of_le_of_lt hij h)) = true) ->
 ∀ i (h : i < l.length), (f l[i] = true ↔ i < l.countP f)
 | [], _, i, h => absurd h (Nat.not_lt_zero _)
 | a :: l, hm, i, h => by
  cases ha : f a with
  | false =>
   have hall : ∀ j (hj : j < (a :: l).length), f (a :: l)[j] = false := fun j hj => by
    cases e : f (a :: l)[j] with
    | false => rfl
    | true => have h3 := hm 0 j hj (Nat.zero_le _) e; rw [show (a :: l)[0] = a from rfl, ha] at h3; cases h3
   have h0 : (a :: l).countP f = 0 := by
    rw [List.countP_eq_zero]
    intro y hy
    obtain ⟨j, hj, rfl⟩ := List.getElem_of_mem hy
    rw [hall j hj]; simp
   rw [hall i h, h0]; simp
  | true =>
   rw [List.countP_cons_of_pos ha]
   cases i with
   | zero => simp [ha]
   | succ i =>
    have h4 := countP_mono f l (fun i j hj hij e => hm (i + 1) (j + 1) (by simp; exact hj) (by omega) e) i (by simpa using h)
    rw [List.getElem_cons_succ, h4]; omega
theorem atNo_lt {pg : List Pr} (h : Srt pg) (key : Key) (i : Nat) (hi : i < pg.length) : pg[i].key < key ↔ i < atNo pg key := by
 have h1 := countP_mono (fun a : Pr => decide (a.key < key)) pg (fun a b hb hab e => by
  rcases Nat.lt_or_ge a b with h2 | h2
  ·have h3 := List.pairwise_iff_getElem.1 h a b (by omega) hb h2
   have h4 : pg[b].key < key := by simpa using e
   simpa using lt_tr h3 h4
  ·have : a = b := by omega
   subst this; exact e) i hi
 unfold atNo
 rw [<- h1]; simp
theorem atNo_le (pg : List Pr) (key : Key) : atNo pg key <= pg.length := List.countP_le_length
theorem page_parts {pg : List Pr} (h : Srt pg) (key : Key) :
 (∀ a ∈ pg.take (atNo pg key), a.key < key) /\
 ((∃ hh : atNo pg key < pg.length, pg[atNo pg key].key = key /\ ∀ a ∈ pg.drop (atNo pg key + 1), key < a.key) ∨
  ((∀ hh : atNo pg key < pg.length, ¬ pg[atNo pg key].key = key) /\ ∀ a ∈ pg.drop (atNo pg key), key < a.key)) := by
 refine ⟨fun a ha => ?_, ?_⟩
 ·obtain ⟨i, hi, rfl⟩ := List.getElem_of_mem ha
  rw [List.getElem_take]
  rw [List.length_take] at hi
  exact (atNo_lt h key i (by omega)).2 (by omega)
 ·by_cases hh : atNo pg key < pg.length
  ·by_cases he : pg[atNo pg key].key = key
   ·refine .inl ⟨hh, he, fun a ha => ?_⟩
    obtain ⟨i, hi, rfl⟩ := List.getElem_of_mem ha
    rw [List.getElem_drop]
    rw [List.length_drop] at hi
    have := List.pairwise_iff_getElem.1 h (atNo pg key) (atNo pg key + 1 + i) hh (by omega) (by omega)
    rw [he] at this; exact this
   ·refine .inr ⟨fun _ => he, fun a ha => ?_⟩
    obtain ⟨i, hi, rfl⟩ := List.getElem_of_mem ha
    rw [List.getElem_drop]
    rw [List.length_drop] at hi
    have h0 : key < pg[atNo pg key].key := by
     rcases lt_tri pg[atNo pg key].key key with h1 | h1 | h1
     ·exact absurd ((atNo_lt h key _ hh).1 h1) (Nat.lt_irrefl _)
     ·exact absurd h1 he
     ·exact h1
    cases i with
    | zero => exact h0
    | succ i => exact lt_tr h0 (List.pairwise_iff_getElem.1 h _ _ hh (by omega) (by omega))
  ·refine .inr ⟨fun h2 => absurd h2 hh, fun a ha => ?_⟩
   rw [List.drop_eq_nil_of_le (by omega)] at ha; cases ha
theorem flat_parts (x : Idx) (p : Nat) (hp : p < x.length) : x.flatten = (x.take p).flatten ++ (x[p] ++ (x.drop (p + 1)).flatten) := by
 conv => lhs; rw [<- List.take_append_drop p x, List.drop_eq_getElem_cons hp]
 rw [List.flatten_append, List.flatten_cons]
theorem IOk.page {x : Idx} (h : IOk x) {p : Nat} (hp : p < x.length) : Srt x[p] := by
 have h1 := h.srt
 rw [flat_parts x p hp] at h1
 exact (List.pairwise_append.1 (List.pairwise_append.1 h1).2.1).1
theorem IOk.between {x : Idx} (h : IOk x) {i j : Nat} (hij : i < j) (hj : j < x.length) {a b : Pr} (ha : a ∈ x[i]'(Nat.lt_trans hij hj)) (hb : b ∈ x[j]) : a.key < b.key := by
 have h1 := h.srt
 rw [flat_parts x j hj] at h1
 have hm : a ∈ (x.take j).flatten := List.mem_flatten.2 ⟨x[i]'(Nat.lt_trans hij hj), List.mem_take_iff_getElem.2 ⟨i, by omega, rfl⟩, ha⟩
 exact (List.pairwise_append.1 h1).2.2 a hm b (List.mem_append_left _ hb)
theorem le0_mono {x : Idx} (h : IOk x) (key : Key) (i j : Nat) (hj : j < x.length) (hij : i <= j) (e : le0 key x[j] = true) : le0 key (x[i]'(Nat.lt_of_le_of_lt hij hj)) = true := by
 rcases Nat.lt_or_ge i j with hlt | hge
 ·cases ei : x[i]'(Nat.lt_of_le_of_lt hij hj) with
  | nil => rfl
  | cons a r =>
   cases ej : x[j] with
   | nil => exact absurd ej (h.ne _ (List.getElem_mem _))
   | cons b s =>
    have h1 := h.between hlt hj (a := a) (b := b) (by rw [ei]; exact List.mem_cons_self) (by rw [ej]; exact List.mem_cons_self)
    rw [ej] at e
    have h2 : ¬ key < b.key := by simpa [le0] using e
    have h3 : ¬ key < a.key := fun h4 => h2 (lt_tr h4 h1)
    simpa [le0] using h3
 ·have : i = j := by omega
  subst this; exact e
theorem pages_parts {x : Idx} (h : IOk x) (key : Key) (h0 : x ≠ []) :
 ∃ _hp : pageNo x key < x.length, (∀ a ∈ (x.take (pageNo x key)).flatten, a.key < key) /\ (∀ a ∈ (x.drop (pageNo x key + 1)).flatten, key < a.key) := by
 have hpos : 0 < x.length := List.length_pos_iff.2 h0
 have hle : x.countP (le0 key) <= x.length := List.countP_le_length
 have hp : pageNo x key < x.length := by unfold pageNo; omega
 refine ⟨hp, fun a ha => ?_, fun a ha => ?_⟩
 ·obtain ⟨pg, hpg, hapg⟩ := List.mem_flatten.1 ha
  obtain ⟨i, hi, rfl⟩ := List.mem_take_iff_getElem.1 hpg
  have hc : pageNo x key < x.countP (le0 key) := by unfold pageNo at hi ⊢; omega
  have h1 := (countP_mono (le0 key) x (fun i j hj hij e => le0_mono h key i j hj hij e) (pageNo x key) hp).2 hc
  cases ej : x[pageNo x key] with
  | nil => exact absurd ej (h.ne _ (List.getElem_mem _))
  | cons b s =>
   have h2 := h.between (i := i) (j := pageNo x key) (by omega) hp (a := a) (b := b) hapg (by rw [ej]; exact List.mem_cons_self)
   rw [ej] at h1
   have h3 : ¬ key < b.key := by simpa [le0] using h1
   exact lt_le_tr h2 h3
 ·obtain ⟨pg, hpg, hapg⟩ := List.mem_flatten.1 ha
  obtain ⟨i, hi, rfl⟩ := List.mem_drop_iff_getElem.1 hpg
  have hi' : pageNo x key + 1 + i < x.length := by omega
  have hn : ¬ (pageNo x key + 1 + i < x.countP (le0 key)) := by unfold pageNo; omega
  have h1 : ¬ le0 key (x[pageNo x key + 1 + i]) = true := fun e => hn ((countP_mono (le0 key) x (fun i j hj hij e => le0_mono h key i j hj hij e) _ hi').1 e)
  cases ej : x[pageNo x key + 1 + i] with
  | nil => exact absurd ej (h.ne _ (List.getElem_mem _))
  | cons b s =>
   rw [ej] at h1
   have h3 : key < b.key := by simpa [le0] using h1
   have hs := h.page hi'
   rw [ej] at hs
   rw [ej] at hapg
   rcases List.mem_cons.1 hapg with rfl | h4
   ·exact h3
   ·exact lt_tr h3 ((List.pairwise_cons.1 hs).1 a h4)
def hasIn (pg : List Pr) (key : Key) : Bool := match pg[atNo pg key]? with
 | some a => decide (a.key = key)
 | none => false
def pageAt (x : Idx) (key : Key) : List Pr := x.getD (pageNo x key) []
def find (x : Idx) (key : Key) : Nat × Nat × Bool := if x = [] then (0, 0, false) else (pageNo x key, atNo (pageAt x key) key, hasIn (pageAt x key) key)
def one (b : Bool) : Nat := if b = true then 1 else 0
def pgPut (pg : List Pr) (pr : Pr) : List Pr := pg.take (atNo pg pr.key) ++ pr :: pg.drop (atNo pg pr.key + one (hasIn pg pr.key))
def halves (pg : List Pr) : Idx := if 16 < pg.length then [pg.take 8, pg.drop 8] else [pg]
def put (x : Idx) (pr : Pr) : Idx := if x = [] then [[pr]] else x.take (pageNo x pr.key) ++ halves (pgPut (pageAt x pr.key) pr) ++ x.drop (pageNo x pr.key + 1)
def pgDrop (pg : List Pr) (key : Key) : List Pr := pg.take (atNo pg key) ++ pg.drop (atNo pg key + 1)
def drp (x : Idx) (key : Key) : Idx := if (find x key).2.2 = true then x.take (pageNo x key) ++ (if 0 < (pgDrop (pageAt x key) key).length then [pgDrop (pageAt x key) key] else []) ++ x.drop (pageNo x key + 1) else x
theorem place {x : Idx} (h : IOk x) (key : Key) (h0 : x ≠ []) : ∃ (hp : pageNo x key < x.length) (A M B : List Pr), pageAt x key = x[pageNo x key] /\ (∀ a ∈ (x.take (pageNo x key)).flatten, a.key < key) /\ (∀ a ∈ (x.drop (pageNo x key + 1)).flatten, key < a.key) /\
 (pageAt x key).take (atNo (pageAt x key) key) = A /\ (pageAt x key).drop (atNo (pageAt x key) key + one (hasIn (pageAt x key) key)) = B /\ pageAt x key = A ++ (M ++ B) /\ (∀ a ∈ A, a.key < key) /\ (∀ a ∈ M, a.key = key) /\ (∀ a ∈ B, key < a.key) /\
 ((hasIn (pageAt x key) key = true /\ ∃ (hh : atNo (pageAt x key) key < (pageAt x key).length), M = [(pageAt x key)[atNo (pageAt x key) key]]) ∨ (hasIn (pageAt x key) key = false /\ M = [])) := by
 obtain ⟨hp, h1, h2⟩ := pages_parts h key h0
 have he : pageAt x key = x[pageNo x key] := by unfold pageAt; rw [List.getD_eq_getElem?_getD, List.getElem?_eq_getElem hp]; rfl
 have hs : Srt (pageAt x key) := by rw [he]; exact h.page hp
 generalize pageAt x key = pg at *
 obtain ⟨h3, h4⟩ := page_parts hs key
 rcases h4 with ⟨hh, hk, h5⟩ | ⟨hk, h5⟩
 ·have hb : hasIn pg key = true := by unfold hasIn; rw [List.getElem?_eq_getElem hh]; simpa using hk
  refine ⟨hp, _, [pg[atNo pg key]], _, he, h1, h2, rfl, rfl, ?_, h3, ?_, ?_, .inl ⟨hb, hh, rfl⟩⟩
  ·rw [hb]
   conv => lhs; rw [<- List.take_append_drop (atNo pg key) pg, List.drop_eq_getElem_cons hh]
   rfl
  ·intro a ha; rw [List.mem_singleton] at ha; rw [ha]; exact hk
  ·rw [hb]; exact h5
 ·have hb : hasIn pg key = false := by
   unfold hasIn
   rcases Nat.lt_or_ge (atNo pg key) pg.length with hh | hh
   ·rw [List.getElem?_eq_getElem hh]; simpa using hk hh
   ·rw [List.getElem?_eq_none hh]
  refine ⟨hp, _, [], _, he, h1, h2, rfl, rfl, ?_, h3, (fun a ha => by cases ha), ?_, .inr ⟨hb, rfl⟩⟩
  ·rw [hb]; exact (List.take_append_drop _ _).symm
  ·rw [hb]; exact h5
theorem look_parts {A M B : List Pr} {key : Key} (hA : ∀ a ∈ A, a.key < key) (hM : ∀ a ∈ M, a.key = key) (hB : ∀ b ∈ B, key < b.key) : look (A ++ (M ++ B)) key = M.head? := by
 unfold look
 have e1 : A.find? (fun a => decide (a.key = key)) = none := by
  rw [List.find?_eq_none]; intro a ha e; have h1 := hA a ha; rw [show a.key = key by simpa using e] at h1; exact lt_irr _ h1
 have e2 : B.find? (fun a => decide (a.key = key)) = none := by
  rw [List.find?_eq_none]; intro a ha e; have h1 := hB a ha; rw [show a.key = key by simpa using e] at h1; exact lt_irr _ h1
 rw [List.find?_append, e1, Option.none_or, List.find?_append, e2, Option.or_none]
 cases M with
 | nil => rfl
 | cons m r => rw [List.find?_cons_of_pos (by simpa using hM m List.mem_cons_self)]; rfl
theorem look_find {x : Idx} (h : IOk x) (key : Key) : ((find x key).2.2 = true -> ∃ (hp : pageNo x key < x.length) (hh : atNo (pageAt x key) key < (pageAt x key).length), pageAt x key = x[pageNo x key] /\ find x key = (pageNo x key, atNo (pageAt x key) key, true) /\ look x.flatten key = some (pageAt x key)[atNo (pageAt x key) key] /\ (pageAt x key)[atNo (pageAt x key) key].key = key) /\ ((find x key).2.2 = false -> look x.flatten key = none) := by
 by_cases h0 : x = []
 ·subst h0
  exact ⟨fun h => by simp [find] at h, fun _ => rfl⟩
 ·obtain ⟨hp, A, M, B, he, h1, h2, hA, hB, h3, h4, h5, h6, h7⟩ := place h key h0
  have hl : look x.flatten key = M.head? := by
   rw [flat_parts x _ hp, <- he, h3, List.append_assoc, List.append_assoc, <- List.append_assoc]
   refine look_parts (fun a ha => ?_) h5 (fun b hb => ?_)
   ·rcases List.mem_append.1 ha with h | h
    ·exact h1 a h
    ·exact h4 a h
   ·rcases List.mem_append.1 hb with h | h
    ·exact h6 b h
    ·exact h2 b h
  have hf : find x key = (pageNo x key, atNo (pageAt x key) key, hasIn (pageAt x key) key) := by unfold find; rw [if_neg h0]
  rw [hf, hl]
  rcases h7 with ⟨hb, hh, rfl⟩ | ⟨hb, rfl⟩
  ·refine ⟨fun _ => ⟨hp, hh, he, by rw [hb], rfl, h5 _ (List.mem_singleton_self _)⟩, fun e => ?_⟩
   simp only at e; rw [hb] at e; cases e
  ·refine ⟨fun e => ?_, fun _ => rfl⟩
   simp only at e; rw [hb] at e; cases e
theorem halves_flat (pg : List Pr) : (halves pg).flatten = pg := by
 unfold halves
 split
 ·simp [List.take_append_drop]
 ·simp
theorem halves_ne {pg : List Pr} (h : pg ≠ []) : ∀ p ∈ halves pg, p ≠ [] := by
 intro p hp e
 unfold halves at hp
 split at hp
 ·rename_i hl
  rcases List.mem_cons.1 hp with h1 | h1
  ·rw [e] at h1; have := congrArg List.length h1; simp at this; omega
  ·rw [List.mem_singleton] at h1; rw [e] at h1; have := congrArg List.length h1; simp at this; omega
 ·rw [List.mem_singleton] at hp; exact h (hp ▸ e)
theorem put_flat {x : Idx} (h : IOk x) (pr : Pr) : (put x pr).flatten = ins x.flatten pr := by
 unfold put
 by_cases h0 : x = []
 ·subst h0; rfl
 ·rw [if_neg h0]
  obtain ⟨hp, A, M, B, he, h1, h2, hA, hB, h3, h4, h5, h6, h7⟩ := place h pr.key h0
  rw [List.flatten_append, List.flatten_append, halves_flat]
  unfold pgPut
  rw [hA, hB]
  conv => rhs; rw [flat_parts x _ hp, <- he, h3]
  rw [show ∀ (a b c d e : List Pr), a ++ (b ++ (c ++ d) ++ e) = (a ++ b) ++ (c ++ (d ++ e)) from by intros; simp [List.append_assoc]]
  rw [ins_parts (fun a ha => ?_) h5 (fun b hb => ?_)]
  ·simp [List.append_assoc]
  ·rcases List.mem_append.1 ha with h | h
   ·exact h1 a h
   ·exact h4 a h
  ·rcases List.mem_append.1 hb with h | h
   ·exact h6 b h
   ·exact h2 b h
theorem put_ok {x : Idx} (h : IOk x) (pr : Pr) : IOk (put x pr) := by
 refine ⟨fun p hp => ?_, by rw [put_flat h]; exact ins_srt h.srt pr⟩
 unfold put at hp
 split at hp
 ·rw [List.mem_singleton] at hp; subst hp; simp
 ·rcases List.mem_append.1 hp with hp | hp
  ·rcases List.mem_append.1 hp with hp | hp
   ·exact h.ne p (List.mem_of_mem_take hp)
   ·exact halves_ne (by simp [pgPut]) p hp
  ·exact h.ne p (List.mem_of_mem_drop hp)
theorem drp_none {x : Idx} (h : IOk x) (key : Key) (hf : (find x key).2.2 = false) : del x.flatten key = x.flatten := by
 by_cases h0 : x = []
 ·subst h0; rfl
 ·obtain ⟨hp, A, M, B, he, h1, h2, hA, hB, h3, h4, h5, h6, h7⟩ := place h key h0
  have hf2 : find x key = (pageNo x key, atNo (pageAt x key) key, hasIn (pageAt x key) key) := by unfold find; rw [if_neg h0]
  rw [hf2] at hf
  simp only at hf
  obtain ⟨_, rfl⟩ : hasIn (pageAt x key) key = false /\ M = [] := by
   rcases h7 with ⟨hb, _⟩ | h7
   ·rw [hf] at hb; cases hb
   ·exact h7
  have e : x.flatten = ((x.take (pageNo x key)).flatten ++ A) ++ ([] ++ (B ++ (x.drop (pageNo x key + 1)).flatten)) := by
   rw [flat_parts x _ hp, <- he, h3]; simp [List.append_assoc]
  rw [e, del_parts (fun a ha => ?_) (fun a ha => by cases ha) (fun b hb => ?_)]
  ·simp
  ·rcases List.mem_append.1 ha with h | h
   ·exact h1 a h
   ·exact h4 a h
  ·rcases List.mem_append.1 hb with h | h
   ·exact h6 b h
   ·exact h2 b h
theorem drp_flat {x : Idx} (h : IOk x) (key : Key) : (drp x key).flatten = del x.flatten key := by
 unfold drp
 cases hf : (find x key).2.2 with
 | false => rw [if_neg (by simp)]; exact (drp_none h key hf).symm
 | true =>
  rw [if_pos rfl]
  have h0 : x ≠ [] := fun e => by subst e; simp [find] at hf
  obtain ⟨hp, A, M, B, he, h1, h2, hA, hB, h3, h4, h5, h6, h7⟩ := place h key h0
  have hf2 : find x key = (pageNo x key, atNo (pageAt x key) key, hasIn (pageAt x key) key) := by unfold find; rw [if_neg h0]
  rw [hf2] at hf
  simp only at hf
  rw [hf] at hB
  have hpg : pgDrop (pageAt x key) key = A ++ B := by unfold pgDrop; rw [hA]; rw [show one true = 1 from rfl] at hB; rw [hB]
  have hfl : (if 0 < (pgDrop (pageAt x key) key).length then [pgDrop (pageAt x key) key] else []).flatten = A ++ B := by
   rw [hpg]
   split
   ·simp
   ·rename_i hn
    have : A ++ B = [] := List.eq_nil_of_length_eq_zero (by omega)
    rw [this]; rfl
  rw [List.flatten_append, List.flatten_append, hfl]
  have e : x.flatten = ((x.take (pageNo x key)).flatten ++ A) ++ (M ++ (B ++ (x.drop (pageNo x key + 1)).flatten)) := by
   rw [flat_parts x _ hp, <- he, h3]; simp [List.append_assoc]
  rw [e, del_parts (fun a ha => ?_) h5 (fun b hb => ?_)]
  ·simp [List.append_assoc]
  ·rcases List.mem_append.1 ha with h | h
   ·exact h1 a h
   ·exact h4 a h
  ·rcases List.mem_append.1 hb with h | h
   ·exact h6 b h
   ·exact h2 b h
theorem drp_ok {x : Idx} (h : IOk x) (key : Key) : IOk (drp x key) := by
 refine ⟨fun p hp => ?_, by rw [drp_flat h]; exact del_srt h.srt key⟩
 unfold drp at hp
 split at hp
 ·rcases List.mem_append.1 hp with hp | hp
  ·rcases List.mem_append.1 hp with hp | hp
   ·exact h.ne p (List.mem_of_mem_take hp)
   ·split at hp
    ·rename_i hl
     rw [List.mem_singleton] at hp; subst hp
     exact List.length_pos_iff.1 hl
    ·cases hp
  ·exact h.ne p (List.mem_of_mem_drop hp)
 ·exact h.ne p hp
end S6
end Go.Proofs.YtnjfioikpajhlaaGreat
namespace Go.Proofs.YtnjfioikpajhlaaGreat
namespace S6
structure Wr where
 key : Key
 val : List UInt8
 drop : Bool
 ver : Nat
def lastN : Nat := 9223372036854775807
def wrB (x : Wr) : List UInt8 := W.vb x.key.length ++ x.key ++ (if x.drop = true then [0] else [1] ++ W.vb x.val.length ++ x.val)
def wrsB (ws : List Wr) : List UInt8 := ws.flatMap wrB
def batchB (n : Nat) (ws : List Wr) : List UInt8 := W.vb n ++ W.vb ws.length ++ wrsB ws
theorem wrsB_cons (x : Wr) (ws : List Wr) : wrsB (x :: ws) = wrB x ++ wrsB ws := rfl
theorem wrsB_snoc (x : Wr) (ws : List Wr) : wrsB (ws ++ [x]) = wrsB ws ++ wrB x := by simp [wrsB]
theorem wrB_len (x : Wr) (hk : x.key.length <= 1000000) (hv : x.val.length <= 1000000) : (wrB x).length <= x.key.length + x.val.length + 21 := by
 have h1 := (W.vb_len10 x.key.length (by omega)).1
 have h2 := (W.vb_len10 x.val.length (by omega)).1
 unfold wrB
 split <;> simp <;> omega
theorem wrsB_len (ws : List Wr) (h : ∀ x ∈ ws, x.key.length <= 1000000 /\ x.val.length <= 1000000) : (wrsB ws).length <= ws.length * 2000021 := by
 induction ws with
 | nil => simp [wrsB]
 | cons x ws ih =>
  have h1 := wrB_len x (h x List.mem_cons_self).1 (h x List.mem_cons_self).2
  have h2 := h x List.mem_cons_self
  have h3 := ih (fun y hy => h y (List.mem_cons_of_mem _ hy))
  rw [wrsB_cons, List.length_append, List.length_cons]
  omega
def rdNum (most : Nat) (b : List UInt8) : Option (Nat × List UInt8) :=
 if (W.rv b 0 0).2.2 ≠ 0 ∨ most < (W.rv b 0 0).1 then none else some ((W.rv b 0 0).1, b.drop (W.rv b 0 0).2.1)
def rdText (most : Nat) (b : List UInt8) : Option (List UInt8 × List UInt8) := match rdNum most b with
 | none => none
 | some (n, r) => if r.length < n then none else some (r.take n, r.drop n)
def rdWr (b : List UInt8) : Option (Wr × List UInt8) := match rdText 32 b with
 | none => none
 | some (k, r) => match rdNum 1 r with
  | none => none
  | some (f, r2) => if k = [] then none else if f = 1 then (match rdText 4000 r2 with
   | none => none
   | some (v, r3) => some (⟨k, v, false, 0⟩, r3)) else some (⟨k, [], true, 0⟩, r2)
def rdWrs : Nat -> List UInt8 -> Option (List Wr × List UInt8)
 | 0, b => some ([], b)
 | n + 1, b => match rdWr b with
  | none => none
  | some (x, r) => match rdWrs n r with
   | none => none
   | some (xs, r2) => some (x :: xs, r2)
def readB (b : List UInt8) : Option (Nat × List Wr) := match rdNum lastN b with
 | none => none
 | some (n, r) => match rdNum 64 r with
  | none => none
  | some (c, r2) => match rdWrs c r2 with
   | none => none
   | some (ws, r3) => if r3 = [] then some (n, ws) else none
theorem rdNum_vb (most n : Nat) (r : List UInt8) (h : n <= most) (hm : most < 18446744073709551616) : rdNum most (W.vb n ++ r) = some (n, r) := by
 unfold rdNum
 rw [W.rv_back n r (by omega), if_neg (by simp; omega)]
 simp
theorem rdText_vb (most : Nat) (t r : List UInt8) (h : t.length <= most) (hm : most < 18446744073709551616) : rdText most (W.vb t.length ++ t ++ r) = some (t, r) := by
 unfold rdText
 rw [List.append_assoc, rdNum_vb most t.length (t ++ r) h hm]
 simp
def strip (x : Wr) : Wr := ⟨x.key, if x.drop = true then [] else x.val, x.drop, 0⟩
structure WOk (x : Wr) : Prop where
 key0 : x.key ≠ []
 key : x.key.length <= 32
 val : x.val.length <= 4000
theorem rdWr_back (x : Wr) (h : WOk x) (r : List UInt8) : rdWr (wrB x ++ r) = some (strip x, r) := by
 unfold rdWr wrB strip
 cases hd : x.drop with
 | true =>
  simp only [if_true]
  rw [List.append_assoc _ [0] r, rdText_vb 32 x.key _ h.key (by omega)]
  have h0 : rdNum 1 ([0] ++ r) = some (0, r) := by
   have := rdNum_vb 1 0 r (by omega) (by omega)
   rwa [W.vb_small 0 (by omega)] at this
  simp only [h0]
  rw [if_neg h.key0, if_neg (by omega)]
 | false =>
  simp only [Bool.false_eq_true, if_false]
  rw [List.append_assoc _ ([1] ++ W.vb x.val.length ++ x.val) r, rdText_vb 32 x.key _ h.key (by omega)]
  have h0 : rdNum 1 ([1] ++ W.vb x.val.length ++ x.val ++ r) = some (1, W.vb x.val.length ++ x.val ++ r) := by
   have := rdNum_vb 1 1 (W.vb x.val.length ++ x.val ++ r) (by omega) (by omega)
   rw [W.vb_small 1 (by omega)] at this
   simpa [List.append_assoc] using this
  simp only [h0]
  rw [if_neg h.key0, if_pos trivial, rdText_vb 4000 x.val r h.val (by omega)]
theorem rdWrs_back (ws : List Wr) (h : ∀ x ∈ ws, WOk x) (r : List UInt8) : rdWrs ws.length (wrsB ws ++ r) = some (ws.map strip, r) := by
 induction ws with
 | nil => rfl
 | cons x ws ih =>
  rw [wrsB_cons, List.append_assoc, List.length_cons]
  unfold rdWrs
  rw [rdWr_back x (h x List.mem_cons_self), ]
  simp only [ih (fun y hy => h y (List.mem_cons_of_mem _ hy)), List.map_cons]
theorem readB_back (n : Nat) (ws : List Wr) (hn : n <= lastN) (hl : ws.length <= 64) (h : ∀ x ∈ ws, WOk x) : readB (batchB n ws) = some (n, ws.map strip) := by
 unfold readB batchB
 rw [List.append_assoc, rdNum_vb lastN n _ hn (by unfold lastN; omega)]
 simp only [rdNum_vb 64 ws.length _ hl (by omega)]
 have := rdWrs_back ws h []
 rw [List.append_nil] at this
 simp only [this, if_true]
theorem rdNum_le {most : Nat} {b r : List UInt8} {n : Nat} (h : rdNum most b = some (n, r)) : n <= most /\ r.length <= b.length := by
 unfold rdNum at h
 split at h
 ·cases h
 ·rename_i hn
  injection h with h; injection h with h1 h2
  subst h1 h2
  refine ⟨by omega, by simp⟩
theorem rdText_le {most : Nat} {b r t : List UInt8} (h : rdText most b = some (t, r)) : t.length <= most /\ r.length + t.length <= b.length := by
 unfold rdText at h
 split at h
 ·cases h
 ·rename_i n r0 h0
  have h1 := rdNum_le h0
  split at h
  ·cases h
  ·injection h with h; injection h with h2 h3
   subst h2 h3
   simp; omega
theorem rdWr_ok {b r : List UInt8} {x : Wr} (h : rdWr b = some (x, r)) : WOk x /\ x.ver = 0 /\ r.length <= b.length := by
 unfold rdWr at h
 split at h
 ·cases h
 ·rename_i k r1 h1
  have h1' := rdText_le h1
  split at h
  ·cases h
  ·rename_i f r2 h2
   have h2' := rdNum_le h2
   split at h
   ·cases h
   ·rename_i hk
    split at h
    ·split at h
     ·cases h
     ·rename_i v r3 h3
      have h3' := rdText_le h3
      injection h with h; injection h with h4 h5
      subst h4 h5
      exact ⟨⟨hk, h1'.1, h3'.1⟩, rfl, by omega⟩
    ·injection h with h; injection h with h4 h5
     subst h4 h5
     exact ⟨⟨hk, h1'.1, by simp⟩, rfl, by omega⟩
theorem rdWrs_ok : ∀ (n : Nat) (b r : List UInt8) (ws : List Wr), rdWrs n b = some (ws, r) -> ws.length = n /\ (∀ x ∈ ws, WOk x) /\ r.length <= b.length
 | 0, b, r, ws, h => by
  injection h with h; injection h with h1 h2
  subst h1 h2
  exact ⟨rfl, fun x hx => (by cases hx), Nat.le_refl _⟩
 | n + 1, b, r, ws, h => by
  unfold rdWrs at h
  split at h
  ·cases h
  ·rename_i x r1 h1
   have h1' := rdWr_ok h1
   split at h
   ·cases h
   ·rename_i xs r2 h2
    have h2' := rdWrs_ok n r1 r2 xs h2
    injection h with h; injection h with h4 h5
    subst h4 h5
    refine ⟨by rw [List.length_cons, h2'.1], fun y hy => ?_, by omega⟩
    rcases List.mem_cons.1 hy with rfl | hy
    ·exact h1'.1
    ·exact h2'.2.1 y hy
theorem readB_ok {b : List UInt8} {n : Nat} {ws : List Wr} (h : readB b = some (n, ws)) : n <= lastN /\ ws.length <= 64 /\ ∀ x ∈ ws, WOk x := by
 unfold readB at h
 split at h
 ·cases h
 ·rename_i n0 r h1
  have h1' := rdNum_le h1
  split at h
  ·cases h
  ·rename_i c r2 h2
   have h2' := rdNum_le h2
   split at h
   ·cases h
   ·rename_i ws0 r3 h3
    have h3' := rdWrs_ok _ _ _ _ h3
    split at h
    ·injection h with h; injection h with h4 h5
     subst h4 h5
     exact ⟨h1'.1, by omega, h3'.2.1⟩
    ·cases h
def stepW (n : Nat) (l : List Pr) (x : Wr) : List Pr := if x.drop = true then del l x.key else ins l ⟨x.key, x.val, n⟩
def apl (l : List Pr) (n : Nat) (ws : List Wr) : List Pr := ws.foldl (stepW n) l
theorem apl_cons (l : List Pr) (n : Nat) (x : Wr) (ws : List Wr) : apl l n (x :: ws) = apl (stepW n l x) n ws := rfl
theorem apl_snoc (l : List Pr) (n : Nat) (x : Wr) (ws : List Wr) : apl l n (ws ++ [x]) = stepW n (apl l n ws) x := by simp [apl]
theorem stepW_strip (n : Nat) (l : List Pr) (x : Wr) : stepW n l (strip x) = stepW n l x := by
 unfold stepW strip
 cases h : x.drop <;> simp
theorem apl_strip (n : Nat) (ws : List Wr) (l : List Pr) : apl l n (ws.map strip) = apl l n ws := by
 induction ws generalizing l with
 | nil => rfl
 | cons x ws ih => rw [List.map_cons, apl_cons, apl_cons, stepW_strip, ih]
theorem stepW_srt {l : List Pr} (h : Srt l) (n : Nat) (x : Wr) : Srt (stepW n l x) := by
 unfold stepW
 split
 ·exact del_srt h _
 ·exact ins_srt h _
theorem apl_srt {l : List Pr} (h : Srt l) (n : Nat) (ws : List Wr) : Srt (apl l n ws) := by
 induction ws generalizing l with
 | nil => exact h
 | cons x ws ih => exact ih (stepW_srt h n x)
structure POk (m : Nat) (p : Pr) : Prop where
 key0 : p.key ≠ []
 key : p.key.length <= 32
 val : p.val.length <= 4000
 ver : p.ver <= m
theorem POk.le {m m' : Nat} {p : Pr} (h : POk m p) (hm : m <= m') : POk m' p := ⟨h.key0, h.key, h.val, Nat.le_trans h.ver hm⟩
theorem ins_mem {l : List Pr} {p a : Pr} (h : a ∈ ins l p) : a = p ∨ a ∈ l := by
 unfold ins at h
 rcases List.mem_append.1 h with h | h
 ·exact .inr (List.mem_filter.1 h).1
 ·rcases List.mem_cons.1 h with h | h
  ·exact .inl h
  ·exact .inr (List.mem_filter.1 h).1
theorem del_mem {l : List Pr} {k : Key} {a : Pr} (h : a ∈ del l k) : a ∈ l := by
 unfold del at h
 rcases List.mem_append.1 h with h | h <;> exact (List.mem_filter.1 h).1
theorem filter2_len {l : List Pr} (k : Key) : (l.filter (fun a => decide (a.key < k))).length + (l.filter (fun a => decide (k < a.key))).length <= l.length := by
 induction l with
 | nil => simp
 | cons a l ih =>
  rcases Classical.em (a.key < k) with h | h
  ·rw [List.filter_cons_of_pos (by simpa using h), List.filter_cons_of_neg (by simpa using lt_asy h)]
   simp only [List.length_cons]; omega
  ·rw [List.filter_cons_of_neg (by simpa using h)]
   rcases Classical.em (k < a.key) with h2 | h2
   ·rw [List.filter_cons_of_pos (by simpa using h2)]
    simp only [List.length_cons]; omega
   ·rw [List.filter_cons_of_neg (by simpa using h2)]
    simp only [List.length_cons]; omega
theorem ins_len (l : List Pr) (p : Pr) : (ins l p).length <= l.length + 1 := by
 have := filter2_len (l := l) p.key
 unfold ins
 simp only [List.length_append, List.length_cons]; omega
theorem del_len (l : List Pr) (k : Key) : (del l k).length <= l.length := by
 have := filter2_len (l := l) k
 unfold del
 simp only [List.length_append]; omega
theorem stepW_len (n : Nat) (l : List Pr) (x : Wr) : (stepW n l x).length <= l.length + 1 := by
 unfold stepW
 split
 ·have := del_len l x.key; omega
 ·exact ins_len l _
theorem apl_len (n : Nat) (ws : List Wr) (l : List Pr) : (apl l n ws).length <= l.length + ws.length := by
 induction ws generalizing l with
 | nil => exact Nat.le_refl _
 | cons x ws ih =>
  have h1 := ih (stepW n l x)
  have h2 := stepW_len n l x
  rw [apl_cons, List.length_cons]; omega
theorem stepW_pok {m n : Nat} {l : List Pr} {x : Wr} (h : ∀ p ∈ l, POk m p) (hx : WOk x) (hn : n <= m) : ∀ p ∈ stepW n l x, POk m p := by
 intro p hp
 unfold stepW at hp
 split at hp
 ·exact h p (del_mem hp)
 ·rcases ins_mem hp with rfl | hp
  ·exact ⟨hx.key0, hx.key, hx.val, hn⟩
  ·exact h p hp
theorem apl_pok {m n : Nat} {ws : List Wr} {l : List Pr} (h : ∀ p ∈ l, POk m p) (hx : ∀ x ∈ ws, WOk x) (hn : n <= m) : ∀ p ∈ apl l n ws, POk m p := by
 induction ws generalizing l with
 | nil => exact h
 | cons x ws ih => exact ih (stepW_pok h (hx x List.mem_cons_self) hn) (fun y hy => hx y (List.mem_cons_of_mem _ hy))
theorem mid_parts {l : List Pr} (h : Srt l) (k : Key) : ∃ A M B, l = A ++ (M ++ B) /\ (∀ a ∈ A, a.key < k) /\ (∀ a ∈ M, a.key = k) /\ (∀ a ∈ B, k < a.key) /\ M.length <= 1 := by
 induction l with
 | nil => exact ⟨[], [], [], rfl, (fun a h => by cases h), (fun a h => by cases h), (fun a h => by cases h), by simp⟩
 | cons a l ih =>
  obtain ⟨h1, h2⟩ := List.pairwise_cons.1 h
  rcases lt_tri a.key k with h3 | h3 | h3
  ·obtain ⟨A, M, B, rfl, hA, hM, hB, hl⟩ := ih h2
   refine ⟨a :: A, M, B, rfl, fun y hy => ?_, hM, hB, hl⟩
   rcases List.mem_cons.1 hy with rfl | hy
   ·exact h3
   ·exact hA y hy
  ·refine ⟨[], [a], l, rfl, (fun a h => by cases h), fun y hy => ?_, fun y hy => ?_, by simp⟩
   ·rw [List.mem_singleton] at hy; rw [hy]; exact h3
   ·rw [<- h3]; exact h1 y hy
  ·refine ⟨[], [], a :: l, rfl, (fun a h => by cases h), (fun a h => by cases h), fun y hy => ?_, by simp⟩
   rcases List.mem_cons.1 hy with rfl | hy
   ·exact h3
   ·exact lt_tr h3 (h1 y hy)
theorem look_some {l : List Pr} {k : Key} {p : Pr} (h : look l k = some p) : p ∈ l /\ p.key = k := by
 unfold look at h
 exact ⟨List.mem_of_find?_eq_some h, by simpa using List.find?_some h⟩
theorem look_none {l : List Pr} {k : Key} (h : look l k = none) : ∀ p ∈ l, p.key ≠ k := by
 unfold look at h
 rw [List.find?_eq_none] at h
 intro p hp e
 exact h p hp (by simpa using e)
theorem srt_inj {l : List Pr} (h : Srt l) {a b : Pr} (ha : a ∈ l) (hb : b ∈ l) (e : a.key = b.key) : a = b := by
 induction l with
 | nil => cases ha
 | cons c l ih =>
  obtain ⟨h1, h2⟩ := List.pairwise_cons.1 h
  rcases List.mem_cons.1 ha with rfl | h4
  ·rcases List.mem_cons.1 hb with rfl | h5
   ·rfl
   ·have := h1 b h5; rw [e] at this; exact absurd this (lt_irr _)
  ·rcases List.mem_cons.1 hb with rfl | hb2
   ·have := h1 a h4; rw [e] at this; exact absurd this (lt_irr _)
   ·exact ih h2 h4 hb2
theorem look_mem {l : List Pr} (h : Srt l) {p : Pr} (hp : p ∈ l) : look l p.key = some p := by
 cases e : look l p.key with
 | none => exact absurd rfl (look_none e p hp)
 | some q => have h1 := look_some e; rw [srt_inj h h1.1 hp h1.2]
def wsum (f : Pr -> Nat) (l : List Pr) : Nat := (l.map f).sum
theorem wsum_append (f : Pr -> Nat) (a b : List Pr) : wsum f (a ++ b) = wsum f a + wsum f b := by simp [wsum]
theorem wsum_del (f : Pr -> Nat) {l : List Pr} (h : Srt l) (k : Key) : wsum f (del l k) + ((look l k).map f).getD 0 = wsum f l := by
 obtain ⟨A, M, B, rfl, hA, hM, hB, hl⟩ := mid_parts h k
 rw [del_parts hA hM hB, look_parts hA hM hB, wsum_append, wsum_append, wsum_append]
 match M, hl with
 | [], _ => simp [wsum]
 | [m], _ => simp [wsum]; omega
theorem wsum_ins (f : Pr -> Nat) {l : List Pr} (h : Srt l) (p : Pr) : wsum f (ins l p) + ((look l p.key).map f).getD 0 = wsum f l + f p := by
 obtain ⟨A, M, B, rfl, hA, hM, hB, hl⟩ := mid_parts h p.key
 rw [ins_parts hA hM hB, look_parts hA hM hB, wsum_append, wsum_append, wsum_append]
 match M, hl with
 | [], _ => simp [wsum]; omega
 | [m], _ => simp [wsum]; omega
end S6
end Go.Proofs.YtnjfioikpajhlaaGreat
