/- The plain law of the log: what a head and a piece tell. -/
import Derived.Test.YtmcmocakfhedfaaWalM
namespace Go.Proofs.Ytmcmocakfhedfaa
open Go.RowKit

namespace W
theorem be_add (a b m : Nat) : be (a + b) m = be a (m / 256 ^ b) ++ be b m := by
  induction a with
  | zero => rw [Nat.zero_add]; rfl
  | succ a ih =>
    have e : a + 1 + b = (a + b) + 1 := by omega
    rw [e, be, ih, be, Nat.div_div_eq_div_mul, ← Nat.pow_add, Nat.add_comm b a]
    rfl
theorem num_be (n : Nat) : ∀ m, num (be n m) = m % 256 ^ n := by
  induction n with
  | zero => intro m; rw [Nat.pow_zero, Nat.mod_one]; rfl
  | succ n ih =>
    intro m
    rw [be_snoc, num_snoc, ih, Nat.pow_succ, Nat.mul_comm (256 ^ n) 256, Nat.mod_mul]
    have : (UInt8.ofNat m).toNat = m % 256 := by simp
    rw [this]; omega
end W

namespace W5
theorem pad_len (x : List UInt8) (h : x.length ≤ 508) : (x ++ List.replicate (508 - x.length) 0).length = 508 := by rw [List.length_append, List.length_replicate]; omega
theorem sealed_take (x : List UInt8) (h : x.length ≤ 508) : (sealed x).take 508 = x ++ List.replicate (508 - x.length) 0 := by
  have h1 := pad_len x h
  unfold sealed
  exact List.take_left' h1
theorem sealed_full (y : List UInt8) (h : y.length = 508) : sealed y = y ++ W.be 4 (S.sum y) := by
  unfold sealed
  rw [h, Nat.sub_self, List.replicate_zero, List.append_nil]
theorem sealed_again (x : List UInt8) (h : x.length ≤ 508) : sealed ((sealed x).take 508) = sealed x := by
  rw [sealed_take x h, sealed_full _ (pad_len x h)]; rfl
theorem sealed_pre (x : List UInt8) (h : x.length ≤ 508) (a m : Nat) (hm : a + m ≤ x.length) : ((sealed x).drop a).take m = (x.drop a).take m := by
  unfold sealed
  rw [List.append_assoc, List.drop_append_of_le_length (by omega), List.take_append_of_le_length (by rw [List.length_drop]; omega)]
theorem sealed_head (c : UInt8) (x : List UInt8) : (sealed (c :: x)).headD 0 = c := rfl
theorem tells_sealed (c : UInt8) (x : List UInt8) (h : (c :: x).length ≤ 508) (hc : c = 1 ∨ c = 2) : tells (sealed (c :: x)) = true := by
  unfold tells
  rw [sealed_head, sealed_again _ h]
  rcases hc with rfl | rfl <;> simp
theorem get_pre (b : List UInt8) (h : b.length = 512) (a m : Nat) (hm : 1 ≤ m ∧ m ≤ 8) (ha : a + m ≤ 512) : (W.get b a m).1 = W.num ((b.drop a).take m) := by
  rw [W.get_ok b a m (by omega) (by omega)]
  rfl
theorem head_told (g : Nat) (h : g < 4294967296) : told (head g) = g := by
  unfold told
  have e := get_pre (head g) (head_len g) 1 4 (by omega) (by omega)
  have e2 : ((head g).drop 1).take 4 = W.be 4 g := by
    unfold head
    rw [sealed_pre _ (by rw [List.length_cons, W.be_length]; omega) 1 4 (by rw [List.length_cons, W.be_length]; omega)]
    show (W.be 4 g).take 4 = _
    rw [List.take_of_length_le (by rw [W.be_length]; exact Nat.le_refl _)]
  rw [e2, W.num_be] at e
  exact e.trans (Nat.mod_eq_of_lt h)
theorem head_tells (g : Nat) : tells (head g) = true := tells_sealed 1 _ (by rw [List.length_cons, W.be_length]; omega) (.inl rfl)
theorem piece_cons (gen record i : Nat) (b : List UInt8) : pieceB gen record i b = 2 :: (W.be 8 (gen * 4294967296 + record % 4294967296) ++ W.be 8 (i % 65536 * 281474976710656 + need b.length % 65536 * 4294967296 + b.length % 4294967296) ++ (b.drop (i * 491)).take 491) := by unfold pieceB; simp
theorem piece_tells (gen record i : Nat) (b : List UInt8) : tells (piece gen record i b) = true := by
  have h := pieceB_len gen record i b
  unfold piece
  rw [piece_cons] at h ⊢
  exact tells_sealed 2 _ h (.inr rfl)
theorem piece_told (gen record i : Nat) (b : List UInt8) (h : gen < 4294967296) : told (piece gen record i b) = gen := by
  unfold told
  have hl := pieceB_len gen record i b
  have e := get_pre (piece gen record i b) (piece_len _ _ _ _) 1 4 (by omega) (by omega)
  have e2 : ((piece gen record i b).drop 1).take 4 = W.be 4 gen := by
    unfold piece
    rw [sealed_pre _ hl 1 4 (by rw [piece_cons]; simp only [List.length_cons, List.length_append, W.be_length]; omega), piece_cons]
    show (W.be 8 _ ++ W.be 8 _ ++ _).take 4 = _
    rw [W.be_add 4 4, List.append_assoc, List.append_assoc, List.take_left' (by rw [W.be_length])]
    congr 1
    omega
  rw [e2, W.num_be] at e
  exact e.trans (Nat.mod_eq_of_lt h)
theorem cut13 (X Y Z : List UInt8) (hX : X.length = 8) (hY : Y.length = 8) : ((2 :: (X ++ Y ++ Z)).drop 13).take 4 = Y.drop 4 := by
  have h4 : (Y.take 4).length = 4 := by rw [List.length_take]; omega
  have h5 : (Y.drop 4).length = 4 := by rw [List.length_drop]; omega
  have e3 : (2 :: (X ++ Y ++ Z)) = ((2 :: X) ++ Y.take 4) ++ (Y.drop 4 ++ Z) := by
    have e9 : (2 :: X) ++ Y.take 4 ++ (Y.drop 4 ++ Z) = 2 :: (X ++ (Y.take 4 ++ Y.drop 4) ++ Z) := by simp only [List.cons_append, List.append_assoc]
    rw [List.take_append_drop] at e9
    exact e9.symm
  rw [e3, List.drop_left' (by rw [List.length_append, List.length_cons, hX, h4]), List.take_left' h5]
theorem cut17 (X Y Z : List UInt8) (hX : X.length = 8) (hY : Y.length = 8) : (2 :: (X ++ Y ++ Z)).drop 17 = Z := by
  have e3 : (2 :: (X ++ Y ++ Z)) = ((2 :: X) ++ Y) ++ Z := by simp
  rw [e3, List.drop_left' (by rw [List.length_append, List.length_cons, hX, hY])]
theorem mod13 (a b l : Nat) (h : l < 4294967296) : (a * 281474976710656 + b * 4294967296 + l % 4294967296) % 4294967296 = l := by omega
theorem piece_size (gen record i : Nat) (b : List UInt8) (h : b.length ≤ 8192) : size4 (piece gen record i b) = b.length := by
  unfold size4
  have hl := pieceB_len gen record i b
  have e := get_pre (piece gen record i b) (piece_len _ _ _ _) 13 4 (by omega) (by omega)
  have e2 : ((piece gen record i b).drop 13).take 4 = W.be 4 (i % 65536 * 281474976710656 + need b.length % 65536 * 4294967296 + b.length % 4294967296) := by
    unfold piece
    rw [sealed_pre _ hl 13 4 (by rw [piece_cons]; simp only [List.length_cons, List.length_append, W.be_length]; omega), piece_cons, cut13 _ _ _ (W.be_length _ _) (W.be_length _ _), W.be_add 4 4, List.drop_left' (W.be_length _ _)]
  rw [e2, W.num_be] at e
  refine e.trans ?_
  have e4 : (256 : Nat) ^ 4 = 4294967296 := by decide
  rw [e4]
  exact mod13 _ _ _ (by omega)
theorem piece_body (gen record i : Nat) (b : List UInt8) (m : Nat) (hm : m = min 491 (b.length - i * 491)) : ((piece gen record i b).drop 17).take m = (b.drop (i * 491)).take m := by
  have hl := pieceB_len gen record i b
  unfold piece
  have hm2 : 17 + m ≤ (pieceB gen record i b).length := by
    rw [piece_cons]; simp only [List.length_cons, List.length_append, W.be_length, List.length_take, List.length_drop]; omega
  rw [sealed_pre _ hl 17 m hm2, piece_cons]
  rw [cut17 _ _ _ (W.be_length _ _) (W.be_length _ _), List.take_take]
  congr 1
  omega
theorem zero_silent : tells (List.replicate 512 0) = false := by
  unfold tells
  have : (List.replicate 512 (0 : UInt8)).headD 0 = 0 := rfl
  rw [this]; rfl
end W5
end Go.Proofs.Ytmcmocakfhedfaa
