/- Plain law of the check sum: one step, one byte, a row of bytes; the document's way is the same; a turned byte is seen. -/
import Derived.WalkKit
namespace Go.Proofs.Ytmcmocakfhedfaa
namespace S

def poly : BitVec 32 := 3988292384#32
/-- One step of the sum. -/
def st (c : BitVec 32) : BitVec 32 := (c >>> 1) ^^^ (if c.getLsbD 0 then poly else 0#32)
def stN : Nat → BitVec 32 → BitVec 32
  | 0, c => c
  | k + 1, c => st (stN k c)
/-- One byte. -/
def by1 (c : BitVec 32) (x : UInt8) : BitVec 32 := stN 8 (c ^^^ BitVec.ofNat 32 x.toNat)
def run (c : BitVec 32) (l : List UInt8) : BitVec 32 := l.foldl by1 c
def sum (l : List UInt8) : Nat := (~~~ (run (~~~ 0#32) l)).toNat
theorem run_append (c : BitVec 32) (a b : List UInt8) : run c (a ++ b) = run (run c a) b := by simp [run]
theorem run_snoc (c : BitVec 32) (a : List UInt8) (x : UInt8) : run c (a ++ [x]) = by1 (run c a) x := by simp [run]

theorem st_inj (a b : BitVec 32) (h : st a = st b) : a = b := by
  have h31 : a.getLsbD 0 = b.getLsbD 0 := by
    have := congrArg (fun c => BitVec.getLsbD c 31) h
    simp only [st, BitVec.getLsbD_xor, BitVec.getLsbD_ushiftRight] at this
    have ea : a.getLsbD (1 + 31) = false := BitVec.getLsbD_of_ge _ _ (by omega)
    have eb : b.getLsbD (1 + 31) = false := BitVec.getLsbD_of_ge _ _ (by omega)
    rw [ea, eb] at this
    have p1 : poly.getLsbD 31 = true := by decide +kernel
    have p0 : (0#32).getLsbD 31 = false := by decide +kernel
    cases h0 : a.getLsbD 0 <;> cases h1 : b.getLsbD 0 <;> rw [h0, h1] at this <;> first | rfl | (simp only [if_true, Bool.false_eq_true, if_false, p1, p0] at this; cases this)
  have hs : a >>> 1 = b >>> 1 := by
    unfold st at h
    rw [h31] at h
    exact (BitVec.xor_left_inj _).1 h
  apply BitVec.eq_of_getLsbD_eq
  intro i hi
  match i with
  | 0 => exact h31
  | i + 1 =>
    have := congrArg (fun c => BitVec.getLsbD c i) hs
    simp only [BitVec.getLsbD_ushiftRight] at this
    rw [Nat.add_comm]; exact this
theorem stN_inj (k : Nat) (a b : BitVec 32) (h : stN k a = stN k b) : a = b := by
  induction k with
  | zero => exact h
  | succ k ih => exact ih (st_inj _ _ h)
theorem by1_inj (a b : BitVec 32) (x : UInt8) (h : by1 a x = by1 b x) : a = b := (BitVec.xor_left_inj _).1 (stN_inj 8 _ _ h)
theorem by1_inj2 (a : BitVec 32) (x y : UInt8) (h : by1 a x = by1 a y) : x = y := by
  have h1 := (BitVec.xor_right_inj _).1 (stN_inj 8 _ _ h)
  have h2 := congrArg BitVec.toNat h1
  simp only [BitVec.toNat_ofNat] at h2
  have hx := x.toNat_lt
  have hy := y.toNat_lt
  rw [Nat.mod_eq_of_lt (by omega), Nat.mod_eq_of_lt (by omega)] at h2
  exact UInt8.toNat_inj.1 h2
theorem run_inj (l : List UInt8) (a b : BitVec 32) (h : run a l = run b l) : a = b := by
  induction l generalizing a b with
  | nil => exact h
  | cons x l ih => exact by1_inj _ _ x (ih _ _ h)
/-- A turned byte is seen. -/
theorem sum_set (l : List UInt8) (i : Nat) (hi : i < l.length) (y : UInt8) : sum (l.set i y) = sum l ↔ y = l[i] := by
  constructor
  · intro h
    have h1 : run (~~~ 0#32) (l.set i y) = run (~~~ 0#32) l := BitVec.not_inj.1 (BitVec.eq_of_toNat_eq h)
    have e : l = l.take i ++ (l[i] :: l.drop (i + 1)) := by rw [← List.drop_eq_getElem_cons hi, List.take_append_drop]
    have e2 : l.set i y = l.take i ++ (y :: l.drop (i + 1)) := by
      rw [List.set_eq_take_append_cons_drop, if_pos hi]
    rw [e2] at h1
    conv at h1 => rhs; rw [e]
    rw [run_append, run_append] at h1
    exact by1_inj2 _ _ _ (run_inj (l.drop (i + 1)) _ _ h1)
  · rintro rfl
    rw [List.set_getElem_self]

/-- The document's step: the next bit of the byte against the lowest bit. -/
def rst (x k : Nat) (c : BitVec 32) : BitVec 32 := if (x / 2 ^ k % 2 == 1) = c.getLsbD 0 then c >>> 1 else (c >>> 1) ^^^ poly
def rstN (x : Nat) : Nat → BitVec 32 → BitVec 32
  | 0, c => c
  | k + 1, c => rst x k (rstN x k c)
theorem rst_st (x k : Nat) (hx : x < 256) (c d : BitVec 32) (h : c = d ^^^ BitVec.ofNat 32 (x / 2 ^ k)) : st c = rst x k d ^^^ BitVec.ofNat 32 (x / 2 ^ (k + 1)) := by
  subst h
  have e1 : (BitVec.ofNat 32 (x / 2 ^ k)) >>> 1 = BitVec.ofNat 32 (x / 2 ^ (k + 1)) := by
    apply BitVec.eq_of_toNat_eq
    have h1 : x / 2 ^ k ≤ x := Nat.div_le_self _ _
    have h2 : x / 2 ^ (k + 1) ≤ x := Nat.div_le_self _ _
    rw [BitVec.toNat_ushiftRight, BitVec.toNat_ofNat, BitVec.toNat_ofNat, Nat.mod_eq_of_lt (by omega), Nat.mod_eq_of_lt (by omega), Nat.shiftRight_eq_div_pow, Nat.div_div_eq_div_mul, ← Nat.pow_add]
  have e2 : (BitVec.ofNat 32 (x / 2 ^ k)).getLsbD 0 = (x / 2 ^ k % 2 == 1) := by
    rw [BitVec.getLsbD_ofNat]
    simp [Nat.testBit_zero]
    cases h : decide (x / 2 ^ k % 2 = 1) <;> simp_all
  unfold st rst
  rw [BitVec.ushiftRight_xor_distrib, e1, BitVec.getLsbD_xor, e2]
  cases (x / 2 ^ k % 2 == 1) <;> cases d.getLsbD 0 <;> simp [BitVec.xor_assoc, BitVec.xor_comm poly]
theorem rstN_stN (x : Nat) (hx : x < 256) (c : BitVec 32) (k : Nat) : stN k (c ^^^ BitVec.ofNat 32 x) = rstN x k c ^^^ BitVec.ofNat 32 (x / 2 ^ k) := by
  induction k with
  | zero => simp [stN, rstN]
  | succ k ih => exact rst_st x k hx _ _ ih
theorem by1_rstN (c : BitVec 32) (x : UInt8) : by1 c x = rstN x.toNat 8 c := by
  have hx := x.toNat_lt
  unfold by1
  rw [rstN_stN _ hx]
  have e : x.toNat / 2 ^ 8 = 0 := by omega
  rw [e]; simp

/-! the walk's own forms -/
theorem ofInt32 (c : BitVec 32) : BitVec.ofInt 32 (c.toNat : Int) = c := by
  rw [BitVec.ofInt_natCast, BitVec.ofNat_toNat, BitVec.setWidth_eq]
theorem wrap32 (c : BitVec 32) : IntKind.u32.wrap (c.toNat : Int) = (c.toNat : Int) := by
  have := c.isLt
  rw [IntKind.wrap_u32']; omega
theorem xor32 (a b : BitVec 32) : bits BinOp.xor IntKind.u32 (a.toNat : Int) (b.toNat : Int) = ((a ^^^ b).toNat : Int) := by
  show IntKind.u32.wrap ((BitVec.ofInt 32 (a.toNat : Int) ^^^ BitVec.ofInt 32 (b.toNat : Int)).toNat : Int) = _
  rw [ofInt32, ofInt32, wrap32]
theorem and32 (a b : BitVec 32) : bits BinOp.and IntKind.u32 (a.toNat : Int) (b.toNat : Int) = ((a &&& b).toNat : Int) := by
  show IntKind.u32.wrap ((BitVec.ofInt 32 (a.toNat : Int) &&& BitVec.ofInt 32 (b.toNat : Int)).toNat : Int) = _
  rw [ofInt32, ofInt32, wrap32]
theorem neg32 (a : BitVec 32) : IntKind.u32.wrap (-(a.toNat : Int)) = ((-a).toNat : Int) := by
  have h := a.isLt
  rw [IntKind.wrap_u32', BitVec.toNat_neg]
  by_cases h0 : a.toNat = 0
  · simp [h0]
  · rw [Nat.mod_eq_of_lt (by omega)]; omega
theorem shr1 (a : BitVec 32) : (a.toNat : Int) / (2 : Int) = ((a >>> 1).toNat : Int) := by
  rw [BitVec.toNat_ushiftRight, Nat.shiftRight_eq_div_pow]; omega
theorem low1 (a : BitVec 32) : a &&& 1#32 = if a.getLsbD 0 then 1#32 else 0#32 := by
  apply BitVec.eq_of_getLsbD_eq
  intro i hi
  match i with
  | 0 => simp; split <;> simp_all
  | i + 1 => simp; split <;> simp
theorem st_eq (c : BitVec 32) : (c >>> 1) ^^^ (3988292384#32 &&& -(c &&& 1#32)) = st c := by
  unfold st
  rw [low1]
  cases c.getLsbD 0
  · simp
  · simp [poly]
/-- The step as the walk writes it. -/
theorem st_walk (c : BitVec 32) : bits BinOp.xor IntKind.u32 ((c.toNat : Int) / 2) (bits BinOp.and IntKind.u32 3988292384 (IntKind.u32.wrap (-(bits BinOp.and IntKind.u32 (c.toNat : Int) 1)))) = ((st c).toNat : Int) := by
  have h1 := and32 c 1#32
  have h2 := and32 3988292384#32 (-(c &&& 1#32))
  have e1 : ((1#32).toNat : Int) = 1 := by decide
  have e2 : ((3988292384#32).toNat : Int) = 3988292384 := by decide
  rw [e1] at h1
  rw [e2] at h2
  rw [h1, neg32, h2, shr1, xor32, st_eq]
end S
end Go.Proofs.Ytmcmocakfhedfaa
