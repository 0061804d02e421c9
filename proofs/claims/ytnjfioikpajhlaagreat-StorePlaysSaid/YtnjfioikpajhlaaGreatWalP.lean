import Derived.Test.YtnjfioikpajhlaaGreatWalK
set_option maxRecDepth 100000
set_option maxHeartbeats 64000000
/- Several texts in one (WalP, WalQ, WalR, WalS, WalT). -/
namespace Go.Proofs.YtnjfioikpajhlaaGreat
open Go.RowKit
namespace W
theorem be_add (a b m : Nat) : be (a + b) m = be a (m / 256 ^ b) ++ be b m := by
 induction a with
 | zero => rw [Nat.zero_add]; rfl
 | succ a ih =>
  have e : a + 1 + b = (a + b) + 1 := by omega
  rw [e, be, ih, be, Nat.div_div_eq_div_mul, <- Nat.pow_add, Nat.add_comm b a]
  rfl
theorem num_be (n : Nat) : ∀ m, num (be n m) = m % 256 ^ n := by
 induction n with
 | zero => intro m; rw [Nat.pow_zero, Nat.mod_one]; rfl
 | succ n ih =>
  intro m
  rw [be_snoc, num_snoc, ih, Nat.pow_succ, Nat.mul_comm (256 ^ n) 256, Nat.mod_mul]
  have : (UInt8.ofNat m).toNat = m % 256 := by simp
  rw [this]; omega
end W
namespace W5
theorem pad_len (x : List UInt8) (h : x.length <= 508) : (x ++ List.replicate (508 - x.length) 0).length = 508 := by rw [List.length_append, List.length_replicate]; omega
theorem sealed_take (x : List UInt8) (h : x.length <= 508) : (sealed x).take 508 = x ++ List.replicate (508 - x.length) 0 := by
 have h1 := pad_len x h
 unfold sealed
 exact List.take_left' h1
theorem sealed_full (y : List UInt8) (h : y.length = 508) : sealed y = y ++ W.be 4 (S.sum y) := by
 unfold sealed
 rw [h, Nat.sub_self, List.replicate_zero, List.append_nil]
theorem sealed_again (x : List UInt8) (h : x.length <= 508) : sealed ((sealed x).take 508) = sealed x := by
 rw [sealed_take x h, sealed_full _ (pad_len x h)]; rfl
theorem sealed_pre (x : List UInt8) (_h : x.length <= 508) (a m : Nat) (hm : a + m <= x.length) : ((sealed x).drop a).take m = (x.drop a).take m := by
 unfold sealed
 rw [List.append_assoc, List.drop_append_of_le_length (by omega), List.take_append_of_le_length (by rw [List.length_drop]; omega)]
theorem sealed_head (c : UInt8) (x : List UInt8) : (sealed (c :: x)).headD 0 = c := rfl
theorem tells_sealed (c : UInt8) (x : List UInt8) (h : (c :: x).length <= 508) (hc : c = 1 ∨ c = 2) : tells (sealed (c :: x)) = true := by
 unfold tells
 rw [sealed_head, sealed_again _ h]
 rcases hc with rfl | rfl <;> simp
theorem get_pre (b : List UInt8) (h : b.length = 512) (a m : Nat) (hm : 1 <= m /\ m <= 8) (ha : a + m <= 512) : (W.get b a m).1 = W.num ((b.drop a).take m) := by
 rw [W.get_ok b a m (by omega) (by omega)]
 rfl
theorem head_told (g : Nat) (h : g < 4294967296) : told (head g) = g := by
 unfold told
 have e := get_pre (head g) (head_len g) 1 4 (by omega) (by omega)
 have e2 : ((head g).drop 1).take 4 = W.be 4 g := by
  unfold head
  rw [sealed_pre _ (by rw [List.length_cons, W.be_length]; omega) 1 4 (by rw [List.length_cons, W.be_length]; omega)]
  show (W.be 4 g).take 4 = _
  rw [List.take_of_length_le (by rw [W.be_length]; exact Nat.le_refl _)]
 rw [e2, W.num_be] at e
 exact e.trans (Nat.mod_eq_of_lt h)
theorem head_tells (g : Nat) : tells (head g) = true := tells_sealed 1 _ (by rw [List.length_cons, W.be_length]; omega) (.inl rfl)
theorem piece_cons (gen record i : Nat) (b : List UInt8) : pieceB gen record i b = 2 :: (W.be 8 (gen * 4294967296 + record % 4294967296) ++ W.be 8 (i % 65536 * 281474976710656 + need b.length % 65536 * 4294967296 + b.length % 4294967296) ++ (b.drop (i * 491)).take 491) := by unfold pieceB; simp
theorem piece_tells (gen record i : Nat) (b : List UInt8) : tells (piece gen record i b) = true := by
 have h := pieceB_len gen record i b
 unfold piece
 rw [piece_cons] at h ⊢
 exact tells_sealed 2 _ h (.inr rfl)
theorem piece_told (gen record i : Nat) (b : List UInt8) (h : gen < 4294967296) : told (piece gen record i b) = gen := by
 unfold told
 have hl := pieceB_len gen record i b
 have e := get_pre (piece gen record i b) (piece_len _ _ _ _) 1 4 (by omega) (by omega)
 have e2 : ((piece gen record i b).drop 1).take 4 = W.be 4 gen := by
  unfold piece
  rw [sealed_pre _ hl 1 4 (by rw [piece_cons]; simp only [List.length_cons, List.length_append, W.be_length]; omega), piece_cons]
  show (W.be 8 _ ++ W.be 8 _ ++ _).take 4 = _
  rw [W.be_add 4 4, List.append_assoc, List.append_assoc, List.take_left' (by rw [W.be_length])]
  congr 1
  omega
 rw [e2, W.num_be] at e
 exact e.trans (Nat.mod_eq_of_lt h)
theorem cut13 (X Y Z : List UInt8) (hX : X.length = 8) (hY : Y.length = 8) : ((2 :: (X ++ Y ++ Z)).drop 13).take 4 = Y.drop 4 := by
 have h4 : (Y.take 4).length = 4 := by rw [List.length_take]; omega
 have h5 : (Y.drop 4).length = 4 := by rw [List.length_drop]; omega
 have e3 : (2 :: (X ++ Y ++ Z)) = ((2 :: X) ++ Y.take 4) ++ (Y.drop 4 ++ Z) := by
  have e9 : (2 :: X) ++ Y.take 4 ++ (Y.drop 4 ++ Z) = 2 :: (X ++ (Y.take 4 ++ Y.drop 4) ++ Z) := by simp only [List.cons_append, List.append_assoc]
  rw [List.take_append_drop] at e9
  exact e9.symm
 rw [e3, List.drop_left' (by rw [List.length_append, List.length_cons, hX, h4]), List.take_left' h5]
theorem cut17 (X Y Z : List UInt8) (hX : X.length = 8) (hY : Y.length = 8) : (2 :: (X ++ Y ++ Z)).drop 17 = Z := by
 have e3 : (2 :: (X ++ Y ++ Z)) = ((2 :: X) ++ Y) ++ Z := by simp
 rw [e3, List.drop_left' (by rw [List.length_append, List.length_cons, hX, hY])]
theorem mod13 (a b l : Nat) (h : l < 4294967296) : (a * 281474976710656 + b * 4294967296 + l % 4294967296) % 4294967296 = l := by omega
theorem piece_size (gen record i : Nat) (b : List UInt8) (h : b.length <= 8192) : size4 (piece gen record i b) = b.length := by
 unfold size4
 have hl := pieceB_len gen record i b
 have e := get_pre (piece gen record i b) (piece_len _ _ _ _) 13 4 (by omega) (by omega)
 have e2 : ((piece gen record i b).drop 13).take 4 = W.be 4 (i % 65536 * 281474976710656 + need b.length % 65536 * 4294967296 + b.length % 4294967296) := by
  unfold piece
  rw [sealed_pre _ hl 13 4 (by rw [piece_cons]; simp only [List.length_cons, List.length_append, W.be_length]; omega), piece_cons, cut13 _ _ _ (W.be_length _ _) (W.be_length _ _), W.be_add 4 4, List.drop_left' (W.be_length _ _)]
 rw [e2, W.num_be] at e
 refine e.trans ?_
 have e4 : (256 : Nat) ^ 4 = 4294967296 := by decide
 rw [e4]
 exact mod13 _ _ _ (by omega)
theorem piece_body (gen record i : Nat) (b : List UInt8) (m : Nat) (hm : m = min 491 (b.length - i * 491)) : ((piece gen record i b).drop 17).take m = (b.drop (i * 491)).take m := by
 have hl := pieceB_len gen record i b
 unfold piece
 have hm2 : 17 + m <= (pieceB gen record i b).length := by
  rw [piece_cons]; simp only [List.length_cons, List.length_append, W.be_length, List.length_take, List.length_drop]; omega
 rw [sealed_pre _ hl 17 m hm2, piece_cons]
 rw [cut17 _ _ _ (W.be_length _ _) (W.be_length _ _), List.take_take]
 congr 1
 omega
theorem zero_silent : tells (List.replicate 512 0) = false := by
 unfold tells
 have : (List.replicate 512 (0 : UInt8)).headD 0 = 0 := rfl
 rw [this]; rfl
end W5
end Go.Proofs.YtnjfioikpajhlaaGreat
namespace Go.Proofs.YtnjfioikpajhlaaGreat
open Go.RowKit
namespace W5
def Tb (d : D.Dsk) (B : Nat) : Prop := ∀ i : Nat, (i : Int) < d.n -> tells (D.sector d (i : Int)) = true -> told (D.sector d (i : Int)) <= B
def Pc (d : D.Dsk) (s gen : Nat) (ls : List (List UInt8)) : Prop := ∀ k (h : k < ls.length), ∀ i, i < need ls[k].length -> D.sector d ((s + usedTo ls k + i : Nat) : Int) = piece gen k i ls[k]
theorem need_mul (n : Nat) : n <= need n * 491 := by unfold need; split <;> omega
theorem nextB_pieces (d : D.Dsk) (gen k s : Nat) (b : List UInt8) (h : ∀ i, i < need b.length -> D.sector d ((s + i : Nat) : Int) = piece gen k i b) : ∀ j, j <= need b.length -> nextB d s b.length j = b.take (j * 491)
 | 0, _ => by rw [Nat.zero_mul]; rfl
 | j + 1, hj => by
  show nextB d s b.length j ++ ((D.sector d ((s + j : Nat) : Int)).drop 17).take (min 491 (b.length - j * 491)) = _
  rw [nextB_pieces d gen k s b h j (by omega), h j hj, piece_body _ _ _ _ _ rfl, Nat.add_mul, Nat.one_mul, List.take_add]
  congr 1
  rcases Nat.le_total 491 (b.length - j * 491) with h1 | h1
  ·rw [Nat.min_eq_left h1]
  ·rw [Nat.min_eq_right h1, List.take_of_length_le (by rw [List.length_drop]; exact Nat.le_refl _), List.take_of_length_le (by rw [List.length_drop]; exact h1)]
theorem nextR_hit {d : D.Dsk} {gen k at_ : Nat} {b : List UInt8} (hb : b.length <= 8192) (hat : at_ + need b.length <= area d)
 (h : ∀ i, i < need b.length -> D.sector d ((areaAt d gen + at_ + i : Nat) : Int) = piece gen k i b) : nextR d gen k at_ = some b := by
 have hp := need_pos b.length
 have h0 := h 0 hp
 rw [Nat.add_zero] at h0
 have hs : size4 (D.sector d ((areaAt d gen + at_ : Nat) : Int)) = b.length := by rw [h0]; exact piece_size _ _ _ _ hb
 have hn := nextB_pieces d gen k (areaAt d gen + at_) b h (need b.length) (Nat.le_refl _)
 rw [List.take_of_length_le (need_mul _)] at hn
 unfold nextR
 rw [hs, if_neg (by omega), if_neg (by omega), hn, if_pos]
 exact decide_eq_true h
theorem nextR_fits {d : D.Dsk} (hok : D.Ok d) {gen k at_ : Nat} {b : List UInt8} (h : nextR d gen k at_ = some b) : ∀ i, i < need b.length -> D.sector d ((areaAt d gen + at_ + i : Nat) : Int) = piece gen k i b := by
 unfold nextR at h
 split at h
 ·cases h
 ·split at h
  ·cases h
  ·split at h
   ·rename_i hf
    obtain rfl := Option.some.inj h
    rw [nextB_all d hok]
    exact of_decide_eq_true hf
   ·cases h
theorem read_back {d : D.Dsk} {gen : Nat} {ls : List (List UInt8)} (hl : ∀ b ∈ ls, b.length <= 8192) (hu : used ls <= area d) (hp : Pc d (areaAt d gen) gen ls) (hn : nextR d gen ls.length (used ls) = none) : read d gen = ls := by
 have key : ∀ j, j <= ls.length -> ∀ f, j < f -> readF d gen f (ls.length - j) (usedTo ls (ls.length - j)) = ls.drop (ls.length - j) := by
  intro j
  induction j with
  | zero =>
   intro _ f _
   rw [Nat.sub_zero, usedTo_all, readF_none hn, List.drop_length]
  | succ j ih =>
   intro hj f hf
   obtain ⟨f, rfl⟩ : ∃ f', f = f' + 1 := ⟨f - 1, by omega⟩
   have hk : ls.length - (j + 1) < ls.length := by omega
   have e : ls.length - (j + 1) + 1 = ls.length - j := by omega
   have hus := usedTo_succ ls _ hk
   have hul := usedTo_le ls (ls.length - (j + 1) + 1)
   have hh := nextR_hit (d := d) (gen := gen) (k := ls.length - (j + 1)) (at_ := usedTo ls (ls.length - (j + 1))) (b := ls[ls.length - (j + 1)]) (hl _ (List.getElem_mem hk)) (by omega) (hp _ hk)
   rw [readF_some hh, <- hus, e, ih (by omega) f (by omega), <- e]
   exact (List.drop_eq_getElem_cons hk).symm
 have h := key ls.length (Nat.le_refl _) (area d + 1) (by have := len_le_used ls; omega)
 rw [Nat.sub_self, List.drop_zero] at h
 exact h
theorem readF_used {d : D.Dsk} (hok : D.Ok d) (gen : Nat) : ∀ f n at_, at_ <= area d -> at_ + used (readF d gen f n at_) <= area d /\ ∀ b ∈ readF d gen f n at_, b.length <= 8192
 | 0, n, at_, h => ⟨h, fun b hb => by cases hb⟩
 | f + 1, n, at_, h => by
  cases hn : nextR d gen n at_ with
  | none => rw [readF_none hn]; exact ⟨h, fun b hb => by cases hb⟩
  | some b =>
   obtain ⟨h1, h2⟩ := nextR_some hok hn
   obtain ⟨h3, h4⟩ := readF_used hok gen f (n + 1) (at_ + need b.length) h1
   rw [readF_some hn]
   have e : used (b :: readF d gen f (n + 1) (at_ + need b.length)) = need b.length + used (readF d gen f (n + 1) (at_ + need b.length)) := rfl
   refine ⟨by rw [e]; omega, fun x hx => ?_⟩
   rcases List.mem_cons.1 hx with rfl | hx
   ·exact h2
   ·exact h4 x hx
theorem list_used {d : D.Dsk} (hok : D.Ok d) : used (list d) <= area d /\ ∀ b ∈ list d, b.length <= 8192 := by
 unfold list
 split
 ·have := readF_used hok (current d).1 (area d + 1) 0 0 (Nat.zero_le _)
  rw [Nat.zero_add] at this
  exact this
 ·exact ⟨Nat.zero_le _, fun b hb => by cases hb⟩
theorem current_live {d : D.Dsk} {g : Nat} (hn : 4 <= d.n) (hg : g < 4294967296) (hh : D.sector d ((g % 2 : Nat) : Int) = head g) (ht : Tb d g) : current d = (g, true) := by
 have t0 : tells (D.sector d ((0 : Nat) : Int)) = true -> told (D.sector d ((0 : Nat) : Int)) <= g := ht 0 (by omega)
 have t1 : tells (D.sector d ((1 : Nat) : Int)) = true -> told (D.sector d ((1 : Nat) : Int)) <= g := ht 1 (by omega)
 have e : current d = curStep d (curStep d (0, false) 0) 1 := rfl
 rw [e]
 rcases Nat.mod_two_eq_zero_or_one g with h2 | h2
 ·rw [h2] at hh
  have h0 : curStep d (0, false) 0 = (g, true) := by
   unfold curStep
   rw [hh, head_told g hg, if_pos ⟨h2, rfl, .inl rfl⟩]
  rw [h0]
  unfold curStep
  rw [if_neg]
  rintro ⟨a, b, c⟩
  have hb := head_tells (told (D.sector d ((1 : Nat) : Int)))
  rw [<- b] at hb
  have h9 := t1 hb
  rcases c with c | c
  ·cases c
  ·simp only at c; omega
 ·rw [h2] at hh
  have h0 : (curStep d (0, false) 0).2 = false ∨ (curStep d (0, false) 0).1 < g := by
   unfold curStep
   split
   ·rename_i hc
    obtain ⟨a, b, c⟩ := hc
    have hb := head_tells (told (D.sector d ((0 : Nat) : Int)))
    rw [<- b] at hb
    have := t0 hb
    right
    simp only
    omega
   ·exact .inl rfl
  generalize curStep d (0, false) 0 = x at *
  unfold curStep
  rw [hh, head_told g hg, if_pos ⟨h2, rfl, h0⟩]
theorem folTo_ge (d : D.Dsk) (g : Nat) : ∀ k : Nat, g <= folTo d g k
 | 0 => Nat.le_refl _
 | k + 1 => by
  have h := folTo_ge d g k
  rw [folTo_succ]
  split
  ·omega
  ·exact h
theorem folTo_told (d : D.Dsk) (g : Nat) : ∀ k i : Nat, i < k -> tells (D.sector d (i : Int)) = true -> told (D.sector d (i : Int)) <= folTo d g k
 | k + 1, i, hi, ht => by
  rw [folTo_succ]
  rcases Nat.lt_succ_iff_lt_or_eq.1 hi with hi | rfl
  ·have h := folTo_told d g k i hi ht
   split
   ·omega
   ·exact h
  ·rw [if_pos ht]; omega
theorem folTo_le (d : D.Dsk) (g B : Nat) (hg : g <= B) (h : Tb d B) : ∀ k : Nat, (k : Int) <= d.n -> folTo d g k <= B
 | 0, _ => hg
 | k + 1, hk => by
  have h1 := folTo_le d g B hg h k (by omega)
  rw [folTo_succ]
  split
  ·rename_i ht
   have := h k (by omega) ht
   omega
  ·exact h1
theorem following_spec (d : D.Dsk) (g B : Nat) (hn : 0 <= d.n) (hg : g <= B) (h : Tb d B) : g < following d g /\ following d g <= B + 2 /\ following d g % 2 ≠ g % 2 /\ Tb d (following d g - 1) := by
 have h1 := folTo_ge d g d.n.toNat
 have h2 := folTo_le d g B hg h d.n.toNat (by omega)
 have h3 : Tb d (folTo d g d.n.toNat) := fun i hi ht => folTo_told d g d.n.toNat i (by omega) ht
 unfold following
 refine ⟨by omega, by split <;> omega, by split <;> omega, fun i hi ht => ?_⟩
 have := h3 i hi ht
 omega
theorem following_live {d : D.Dsk} {g : Nat} (hn : 0 <= d.n) (ht : Tb d g) : following d g = g + 1 := by
 have h1 := folTo_ge d g d.n.toNat
 have h2 := folTo_le d g g (Nat.le_refl _) ht d.n.toNat (by omega)
 have h3 : folTo d g d.n.toNat = g := by omega
 unfold following
 rw [h3, if_pos rfl]
end W5
end Go.Proofs.YtnjfioikpajhlaaGreat
namespace Go.Proofs.YtnjfioikpajhlaaGreat
open Go.RowKit
namespace W5
def img (f : Int -> Option (List UInt8)) (i : Int) : List UInt8 := (f i).getD (List.replicate 512 0)
theorem sector_img {d : D.Dsk} (h : d.wait = []) (i : Int) : D.sector d i = img d.safe i := by unfold D.sector; rw [h]; rfl
def ents : Nat -> List (List UInt8) -> List (Int × List UInt8)
 | _, [] => []
 | s, c :: C => ((s : Int), c) :: ents (s + 1) C
theorem ents_append (s : Nat) (A B : List (List UInt8)) : ents s (A ++ B) = ents s A ++ ents (s + A.length) B := by
 induction A generalizing s with
 | nil => rfl
 | cons a A ih =>
  show _ :: ents (s + 1) (A ++ B) = _ :: (ents (s + 1) A ++ _)
  rw [ih, List.length_cons]
  congr 3
  omega
theorem over_append (f : Int -> Option (List UInt8)) (A B : List (Int × List UInt8)) : D.over f (A ++ B) = D.over (D.over f A) B := by unfold D.over; rw [List.foldl_append]
theorem over_ents (f : Int -> Option (List UInt8)) (s : Nat) (C : List (List UInt8)) (i : Nat) : D.over f (ents s C) (i : Int) = if h : s <= i /\ i < s + C.length then some (C[i - s]'(by omega)) else f (i : Int) := by
 induction C generalizing s f with
 | nil =>
  rw [dif_neg (by simp only [List.length_nil]; omega)]
  rfl
 | cons c C ih =>
  have e : D.over f (ents s (c :: C)) = D.over (fun j => if j = (s : Int) then some c else f j) (ents (s + 1) C) := rfl
  rw [e, ih]
  by_cases h1 : s + 1 <= i /\ i < s + 1 + C.length
  ·rw [dif_pos h1, dif_pos (by rw [List.length_cons]; omega)]
   have e2 : i - s = (i - (s + 1)) + 1 := by omega
   congr 1
   simp only [e2, List.getElem_cons_succ]
  ·rw [dif_neg h1]
   by_cases h2 : i = s
   ·subst h2
    rw [if_pos rfl, dif_pos (by rw [List.length_cons]; omega)]
    simp
   ·rw [if_neg (by omega), dif_neg (by rw [List.length_cons]; omega)]
theorem over_one (f : Int -> Option (List UInt8)) (s : Int) (c : List UInt8) (i : Int) : D.over f [(s, c)] i = if i = s then some c else f i := rfl
theorem over_kept (f : Int -> Option (List UInt8)) (s : Nat) (C : List (List UInt8)) (ks : List Bool) (i : Nat) : D.over f (D.kept (ents s C) ks) (i : Int) = f (i : Int) ∨ ∃ h : s <= i /\ i < s + C.length, D.over f (D.kept (ents s C) ks) (i : Int) = some (C[i - s]'(by omega)) := by
 induction C generalizing s f ks with
 | nil => left; cases ks <;> rfl
 | cons c C ih =>
  cases ks with
  | nil => exact .inl rfl
  | cons b ks =>
   have lift : ∀ g : Int -> Option (List UInt8), g (i : Int) = f (i : Int) ∨ (i = s /\ g (i : Int) = some c) -> D.over f (D.kept (ents s (c :: C)) (b :: ks)) = D.over g (D.kept (ents (s + 1) C) ks) ->
    D.over f (D.kept (ents s (c :: C)) (b :: ks)) (i : Int) = f (i : Int) ∨ ∃ h : s <= i /\ i < s + (c :: C).length, D.over f (D.kept (ents s (c :: C)) (b :: ks)) (i : Int) = some ((c :: C)[i - s]'(by omega)) := by
    intro g hg e
    rw [e]
    rcases ih g (s + 1) ks with h | ⟨h, h2⟩
    ·rw [h]
     rcases hg with hg | ⟨rfl, hg⟩
     ·exact .inl hg
     ·refine .inr ⟨by rw [List.length_cons]; omega, ?_⟩
      rw [hg]; simp
    ·refine .inr ⟨by rw [List.length_cons]; omega, ?_⟩
     rw [h2]
     have e2 : i - s = (i - (s + 1)) + 1 := by omega
     simp only [e2, List.getElem_cons_succ]
   cases b
   ·exact lift f (.inl rfl) rfl
   ·refine lift (fun j => if j = (s : Int) then some c else f j) ?_ rfl
    by_cases h : i = s
    ·subst h; exact .inr ⟨rfl, if_pos rfl⟩
    ·exact .inl (if_neg (by omega))
theorem wr_spec {d : D.Dsk} (i : Int) (s : List UInt8) (h1 : 0 <= i) (h2 : i < d.n) (h3 : s.length = 512) (hd : d.down = false) :
 (D.write d i s).wait = d.wait ++ [(i, s)] /\ (D.write d i s).safe = d.safe /\ (D.write d i s).n = d.n /\
 ((D.writeE d i s = 0 /\ (D.write d i s).down = false /\ (D.write d i s).armed = d.armed) ∨ (D.writeE d i s = 3 /\ (D.write d i s).down = true /\ d.armed = true)) := by
 obtain ⟨e1, e2⟩ := D.write_not (d := d) (i := i) (s := s) (by rw [hd]; simp; omega)
 rw [e1, e2]
 unfold D.done D.goes
 rw [hd]
 cases ha : d.armed
 ·simp
 ·by_cases h : d.after = 0
  ·simp [h]
  ·simp [h]
theorem fl_spec (d : D.Dsk) :
 (D.flush d).n = d.n /\ ((D.flushE d = 0 /\ (D.flush d).safe = D.over d.safe d.wait /\ (D.flush d).wait = [] /\ (D.flush d).down = false /\ (D.flush d).armed = d.armed) ∨ (D.flushE d = 3 /\ (D.flush d).safe = d.safe /\ (D.flush d).wait = d.wait /\ (D.flush d).down = true /\ (d.armed = true ∨ d.down = true))) := by
 unfold D.flushE D.flush D.done D.goes
 cases hd : d.down
 ·cases ha : d.armed
  ·simp
  ·by_cases h : d.after = 0
   ·simp [h]
   ·simp [h]
 ·simp [hd]
def Run (d X : D.Dsk) (e : Int) (s : Nat) (C : List (List UInt8)) : Prop :=
 X.safe = d.safe /\ X.n = d.n /\ ∃ m, m <= C.length /\ X.wait = d.wait ++ ents s (C.take m) /\ ((e = 0 /\ m = C.length /\ X.down = false /\ X.armed = d.armed) ∨ (e = 3 /\ X.down = true /\ d.armed = true))
theorem Run.nil {d : D.Dsk} (s : Nat) (hd : d.down = false) : Run d d 0 s [] := ⟨rfl, rfl, 0, Nat.le_refl _, by simp [ents], .inl ⟨rfl, rfl, hd, rfl⟩⟩
theorem Run.stop {d X : D.Dsk} {e : Int} {s : Nat} {C : List (List UInt8)} (h : Run d X e s C) (he : e ≠ 0) (C' : List (List UInt8)) : Run d X e s (C ++ C') := by
 obtain ⟨h1, h2, m, h3, h4, h5⟩ := h
 refine ⟨h1, h2, m, by rw [List.length_append]; omega, by rw [h4, List.take_append_of_le_length h3], ?_⟩
 rcases h5 with ⟨h5, _⟩ | h5
 ·exact absurd h5 he
 ·exact .inr h5
theorem Run.app {d X X' : D.Dsk} {e : Int} {s : Nat} {C C' : List (List UInt8)} (h : Run d X 0 s C) (h' : Run X X' e (s + C.length) C') : Run d X' e s (C ++ C') := by
 obtain ⟨h1, h2, m, h3, h4, h5⟩ := h
 obtain ⟨k1, k2, m', k3, k4, k5⟩ := h'
 rcases h5 with ⟨_, rfl, h6, h7⟩ | ⟨h5, _⟩
 ·refine ⟨k1.trans h1, k2.trans h2, C.length + m', by rw [List.length_append]; omega, ?_, ?_⟩
  ·rw [k4, h4, List.take_length, List.take_length_add_append, ents_append, List.append_assoc]
  ·rcases k5 with ⟨a, rfl, b, c⟩ | ⟨a, b, c⟩
   ·exact .inl ⟨a, by rw [List.length_append], b, c.trans h7⟩
   ·exact .inr ⟨a, b, h7 ▸ c⟩
 ·cases h5
theorem Run.up {d X : D.Dsk} {e : Int} {s : Nat} {C : List (List UInt8)} (h : Run d X e s C) (h0 : e = 0) : X.down = false := by
 obtain ⟨_, _, m, _, _, h5⟩ := h
 rcases h5 with ⟨_, _, h6, _⟩ | ⟨h5, _⟩
 ·exact h6
 ·rw [h0] at h5; cases h5
def recP (gen record : Nat) (b : List UInt8) (k : Nat) : List (List UInt8) := (List.range k).map (fun i => piece gen record i b)
theorem recP_len (gen record : Nat) (b : List UInt8) (k : Nat) : (recP gen record b k).length = k := by unfold recP; rw [List.length_map, List.length_range]
theorem recP_succ (gen record : Nat) (b : List UInt8) (k : Nat) : recP gen record b (k + 1) = recP gen record b k ++ [piece gen record k b] := by unfold recP; rw [List.range_succ, List.map_append]; rfl
theorem recP_get (gen record : Nat) (b : List UInt8) (k i : Nat) (h : i < (recP gen record b k).length) : (recP gen record b k)[i] = piece gen record i b := by simp only [recP, List.getElem_map, List.getElem_range]
theorem layTo_run {d : D.Dsk} (hd : d.down = false) (gen record s : Nat) (b : List UInt8) : ∀ k : Nat, ((s + k : Nat) : Int) <= d.n -> Run d (layTo d gen record s b k).1 (layTo d gen record s b k).2 s (recP gen record b k)
 | 0, _ => Run.nil s hd
 | k + 1, hk => by
  have h := layTo_run hd gen record s b k (by omega)
  rw [recP_succ]
  by_cases h0 : (layTo d gen record s b k).2 = 0
  ·have e : layTo d gen record s b (k + 1) = (D.write (layTo d gen record s b k).1 ((s + k : Nat) : Int) (piece gen record k b), D.writeE (layTo d gen record s b k).1 ((s + k : Nat) : Int) (piece gen record k b)) := if_pos h0
   rw [e]
   have hup := h.up h0
   rw [h0] at h
   have hn := layTo_n d gen record s b k
   refine h.app ?_
   rw [recP_len]
   obtain ⟨w1, w2, w3, w4⟩ := wr_spec (d := (layTo d gen record s b k).1) ((s + k : Nat) : Int) (piece gen record k b) (by omega) (by rw [hn]; omega) (piece_len _ _ _ _) hup
   refine ⟨w2, w3, 1, Nat.le_refl _, w1, ?_⟩
   rcases w4 with ⟨a, b, c⟩ | ⟨a, b, c⟩
   ·exact .inl ⟨a, rfl, b, c⟩
   ·exact .inr ⟨a, b, c⟩
  ·have e : layTo d gen record s b (k + 1) = layTo d gen record s b k := if_neg h0
   rw [e]
   exact h.stop h0 _
def allP (gen : Nat) (ls : List (List UInt8)) : Nat -> List (List UInt8)
 | 0 => []
 | k + 1 => allP gen ls k ++ recP gen k (ls.getD k []) (need (ls.getD k []).length)
theorem getD_eq (ls : List (List UInt8)) (k : Nat) (h : k < ls.length) : ls.getD k [] = ls[k] := by rw [List.getD_eq_getElem?_getD, List.getElem?_eq_getElem h]; rfl
theorem allP_len (gen : Nat) (ls : List (List UInt8)) : ∀ k, k <= ls.length -> (allP gen ls k).length = usedTo ls k
 | 0, _ => rfl
 | k + 1, h => by
  rw [usedTo_succ ls k h, allP, List.length_append, recP_len, allP_len gen ls k (by omega), getD_eq ls k h]
theorem allP_get (gen : Nat) (ls : List (List UInt8)) : ∀ m, (hm : m <= ls.length) -> ∀ k (h : k < m), ∀ i, i < need (ls[k]'(by omega)).length -> ∃ h' : usedTo ls k + i < (allP gen ls m).length, (allP gen ls m)[usedTo ls k + i] = piece gen k i (ls[k]'(by omega))
 | m + 1, hm, k, hk, i, hi => by
  have hl := allP_len gen ls m (by omega)
  rcases Nat.lt_succ_iff_lt_or_eq.1 hk with hk | rfl
  ·obtain ⟨h1, h2⟩ := allP_get gen ls m (by omega) k hk i hi
   refine ⟨by rw [allP, List.length_append]; omega, ?_⟩
   simp only [allP]
   rw [List.getElem_append_left h1]
   exact h2
  ·have hg := getD_eq ls k (by omega)
   refine ⟨by rw [allP, List.length_append, recP_len, hl, hg]; omega, ?_⟩
   simp only [allP]
   rw [List.getElem_append_right (by omega), recP_get, hl, hg]
   congr 1
   omega
theorem area_n (d : D.Dsk) : 2 * area d + 2 <= d.n.toNat ∨ area d = 0 := by
 unfold area areaI
 split <;> omega
theorem areaAt_le (d : D.Dsk) (gen : Nat) : areaAt d gen + area d <= 2 * area d + 2 := by
 have e : areaAt d gen = 2 + gen % 2 * area d := rfl
 rw [e]
 have : gen % 2 = 0 ∨ gen % 2 = 1 := by omega
 rcases this with h | h <;> rw [h] <;> omega
theorem begTo_run {d : D.Dsk} (hd : d.down = false) (gen : Nat) (ls : List (List UInt8)) (hu : used ls <= area d) : ∀ k : Nat, k <= ls.length -> Run d (begTo d gen ls k).1 (begTo d gen ls k).2 (areaAt d gen) (allP gen ls k)
 | 0, _ => Run.nil _ hd
 | k + 1, hk => by
  have h := begTo_run hd gen ls hu k (by omega)
  have hg := getD_eq ls k hk
  have hn := begTo_n d gen ls k
  have hus := usedTo_succ ls k hk
  have hul := usedTo_le ls (k + 1)
  have ha := areaAt_le d gen
  have han := area_n d
  have hnp := need_pos ls[k].length
  by_cases h0 : (begTo d gen ls k).2 = 0
  ·have e : begTo d gen ls (k + 1) = lay (begTo d gen ls k).1 gen k (usedTo ls k) (ls.getD k []) := if_pos h0
   have hup := h.up h0
   rw [h0] at h
   rw [e]
   refine h.app ?_
   rw [allP_len gen ls k (by omega)]
   have ea : areaAt (begTo d gen ls k).1 gen = areaAt d gen := by unfold areaAt area; rw [hn]
   unfold lay
   rw [ea]
   refine layTo_run hup gen k (areaAt d gen + usedTo ls k) (ls.getD k []) (need (ls.getD k []).length) ?_
   rw [hn, hg]
   omega
  ·have e : begTo d gen ls (k + 1) = begTo d gen ls k := if_neg h0
   rw [e]
   exact h.stop h0 _
end W5
end Go.Proofs.YtnjfioikpajhlaaGreat
namespace Go.Proofs.YtnjfioikpajhlaaGreat
open Go.RowKit
namespace W5
structure Live (d : D.Dsk) (g : Nat) (recs : List (List UInt8)) : Prop where
 n4 : 4 <= d.n
 wait : d.wait = []
 down : d.down = false
 hd : D.sector d ((g % 2 : Nat) : Int) = head g
 tb : Tb d g
 pc : Pc d (areaAt d g) g recs
 fit : used recs <= area d
 len : ∀ b ∈ recs, b.length <= 8192
 fresh : ∀ j, used recs <= j -> j < area d -> ∀ k, recs.length <= k -> k < 4294967296 -> ∀ i b, D.sector d ((areaAt d g + j : Nat) : Int) ≠ piece g k i b
 g32 : g < 4294967296
theorem Live.cur {d : D.Dsk} {g : Nat} {recs : List (List UInt8)} (h : Live d g recs) : current d = (g, true) := current_live h.n4 h.g32 h.hd h.tb
theorem Live.next {d : D.Dsk} {g : Nat} {recs : List (List UInt8)} (h : Live d g recs) : following d g = g + 1 := following_live (by have := h.n4; omega) h.tb
theorem Live.none {d : D.Dsk} {g : Nat} {recs : List (List UInt8)} (h : Live d g recs) (hok : D.Ok d) : nextR d g recs.length (used recs) = none := by
 have hl := len_le_used recs
 have hf := h.fit
 have ha := area_le d hok.n2
 cases hn : nextR d g recs.length (used recs) with
 | none => rfl
 | some b =>
  obtain ⟨h1, h2⟩ := nextR_some hok hn
  have hp := need_pos b.length
  have h3 := nextR_fits hok hn 0 hp
  exact absurd h3 (h.fresh (used recs) (Nat.le_refl _) (by omega) recs.length (Nat.le_refl _) (by omega) 0 b)
theorem Live.list {d : D.Dsk} {g : Nat} {recs : List (List UInt8)} (h : Live d g recs) (hok : D.Ok d) : list d = recs := by
 unfold W5.list
 rw [h.cur, if_pos rfl]
 exact read_back h.len h.fit h.pc (h.none hok)
theorem area_same {d R : D.Dsk} (h : R.n = d.n) : area R = area d := by unfold area; rw [h]
theorem areaAt_same {d R : D.Dsk} (h : R.n = d.n) (g : Nat) : areaAt R g = areaAt d g := by unfold areaAt; rw [area_same h]
theorem nextB_congr {d R : D.Dsk} (s n : Nat) : ∀ k, (∀ i, i < k -> D.sector R ((s + i : Nat) : Int) = D.sector d ((s + i : Nat) : Int)) -> nextB R s n k = nextB d s n k
 | 0, _ => rfl
 | k + 1, h => by
  show nextB R s n k ++ _ = nextB d s n k ++ _
  rw [nextB_congr s n k (fun i hi => h i (by omega)), h k (by omega)]
theorem nextR_congr {d R : D.Dsk} (hn : R.n = d.n) {g : Nat} (h : ∀ j, j < area d -> D.sector R ((areaAt d g + j : Nat) : Int) = D.sector d ((areaAt d g + j : Nat) : Int)) (k at_ : Nat) : nextR R g k at_ = nextR d g k at_ := by
 unfold nextR
 rw [area_same hn, areaAt_same hn]
 by_cases h1 : area d <= at_
 ·rw [if_pos h1, if_pos h1]
 ·rw [if_neg h1, if_neg h1, h at_ (by omega)]
  by_cases h2 : 8192 < size4 (D.sector d ((areaAt d g + at_ : Nat) : Int)) ∨ area d - at_ < need (size4 (D.sector d ((areaAt d g + at_ : Nat) : Int)))
  ·rw [if_pos h2, if_pos h2]
  ·rw [if_neg h2, if_neg h2]
   have h3 : ∀ i, i < need (size4 (D.sector d ((areaAt d g + at_ : Nat) : Int))) -> D.sector R ((areaAt d g + at_ + i : Nat) : Int) = D.sector d ((areaAt d g + at_ + i : Nat) : Int) := by
    intro i hi
    have := h (at_ + i) (by omega)
    rw [<- Nat.add_assoc] at this
    exact this
   rw [nextB_congr _ _ _ h3]
   have h4 : ∀ b, fits R g k (areaAt d g + at_) b (need (size4 (D.sector d ((areaAt d g + at_ : Nat) : Int)))) = fits d g k (areaAt d g + at_) b (need (size4 (D.sector d ((areaAt d g + at_ : Nat) : Int)))) := by
    intro b
    unfold fits
    refine decide_eq_decide.2 ⟨fun q i hi => (h3 i hi).symm.trans (q i hi), fun q i hi => (h3 i hi).trans (q i hi)⟩
   rw [h4]
theorem readF_congr {d R : D.Dsk} (hn : R.n = d.n) {g : Nat} (h : ∀ j, j < area d -> D.sector R ((areaAt d g + j : Nat) : Int) = D.sector d ((areaAt d g + j : Nat) : Int)) : ∀ f k at_, readF R g f k at_ = readF d g f k at_
 | 0, _, _ => rfl
 | f + 1, k, at_ => by
  have e := nextR_congr hn h k at_
  cases hx : nextR d g k at_ with
  | none => rw [readF_none hx, readF_none (e.trans hx)]
  | some b => rw [readF_some hx, readF_some (e.trans hx), readF_congr hn h f]
theorem current_congr {d R : D.Dsk} (h0 : D.sector R ((0 : Nat) : Int) = D.sector d ((0 : Nat) : Int)) (h1 : D.sector R ((1 : Nat) : Int) = D.sector d ((1 : Nat) : Int)) : current R = current d := by
 have e : ∀ x : D.Dsk, current x = curStep x (curStep x (0, false) 0) 1 := fun _ => rfl
 have c0 : ∀ p, curStep R p 0 = curStep d p 0 := fun p => by unfold curStep; rw [h0]
 have c1 : ∀ p, curStep R p 1 = curStep d p 1 := fun p => by unfold curStep; rw [h1]
 rw [e, e, c0, c1]
theorem areaAt_ge (d : D.Dsk) (g : Nat) : 2 <= areaAt d g := Nat.le_add_right 2 _
theorem apart {d : D.Dsk} {g N : Nat} (h : g % 2 ≠ N % 2) (j : Nat) (hj : j < area d) : areaAt d g + j < areaAt d N ∨ areaAt d N + area d <= areaAt d g + j := by
 have e : ∀ g, areaAt d g = 2 + g % 2 * area d := fun _ => rfl
 rw [e, e]
 rcases Nat.mod_two_eq_zero_or_one g with a | a <;> rcases Nat.mod_two_eq_zero_or_one N with b | b <;> rw [a, b] at h ⊢ <;> first | exact absurd rfl h | omega
structure Mid (d R : D.Dsk) (N : Nat) : Prop where
 n : R.n = d.n
 out : ∀ i : Nat, D.sector R (i : Int) = D.sector d (i : Int) ∨ ((areaAt d N <= i /\ i < areaAt d N + area d) /\ ∃ k j b, D.sector R (i : Int) = piece N k j b)
theorem Mid.same {d R : D.Dsk} {N : Nat} (h : Mid d R N) (i : Nat) (hi : i < areaAt d N ∨ areaAt d N + area d <= i) : D.sector R (i : Int) = D.sector d (i : Int) := by
 rcases h.out i with h | ⟨h, _⟩
 ·exact h
 ·omega
theorem Mid.cur {d R : D.Dsk} {N : Nat} (h : Mid d R N) : current R = current d := by
 have := areaAt_ge d N
 exact current_congr (h.same 0 (by omega)) (h.same 1 (by omega))
theorem Mid.list {d R : D.Dsk} {N : Nat} (h : Mid d R N) (hp : (current d).2 = true -> (current d).1 % 2 ≠ N % 2) : list R = list d := by
 unfold W5.list
 rw [h.cur]
 split
 ·rename_i h2
  unfold read
  rw [area_same h.n]
  exact readF_congr h.n (fun j hj => h.same _ (apart (hp h2) j hj)) _ _ _
 ·rfl
theorem Mid.tb {d R : D.Dsk} {N B : Nat} (h : Mid d R N) (hN : N < 4294967296) (ht : Tb d B) (hB : B <= N) : Tb R N := by
 intro i hi ht2
 rcases h.out i with h2 | ⟨_, k, j, b, h2⟩
 ·rw [h2] at ht2 ⊢
  exact Nat.le_trans (ht i (by rw [<- h.n]; exact hi) ht2) hB
 ·rw [h2, piece_told _ _ _ _ hN]
  exact Nat.le_refl _
theorem allP_mem (gen : Nat) (ls : List (List UInt8)) : ∀ k, ∀ c ∈ allP gen ls k, ∃ r j b, c = piece gen r j b
 | 0, c, h => by cases h
 | k + 1, c, h => by
  rcases List.mem_append.1 h with h | h
  ·exact allP_mem gen ls k c h
  ·unfold recP at h
   obtain ⟨i, _, rfl⟩ := List.mem_map.1 h
   exact ⟨_, _, _, rfl⟩
def BegOut (d : D.Dsk) (N : Nat) (P : List (List UInt8)) (X : D.Dsk) (e : Int) : Prop :=
 X.n = d.n /\
 ((e = 0 /\ X.down = false /\ X.armed = d.armed /\ X.wait = [] /\ X.safe = D.over (D.over d.safe (ents (areaAt d N) P)) [(((N % 2 : Nat) : Int), head N)]) ∨
  (e = 3 /\ X.down = true /\ d.armed = true /\ ((X.safe = d.safe /\ ∃ m, X.wait = ents (areaAt d N) (P.take m)) ∨ (X.safe = D.over d.safe (ents (areaAt d N) P) /\ (X.wait = [] ∨ X.wait = [(((N % 2 : Nat) : Int), head N)])))))
theorem begin_out {d : D.Dsk} (hn : 4 <= d.n) (hd : d.down = false) (hw : d.wait = []) (N : Nat) (ls : List (List UInt8)) (hu : used ls <= area d) : BegOut d N (allP N ls ls.length) (begin_ d N ls).1 (begin_ d N ls).2 := by
 have hr := begTo_run hd N ls hu ls.length (Nat.le_refl _)
 unfold begin_
 generalize hx : begTo d N ls ls.length = x at *
 obtain ⟨x, e⟩ := x
 simp only at hr ⊢
 obtain ⟨r1, r2, m, r3, r4, r5⟩ := hr
 rw [hw, List.nil_append] at r4
 by_cases h0 : e = 0
 ·rw [if_pos h0]
  rcases r5 with ⟨_, rfl, r6, r7⟩ | ⟨r6, _⟩
  ·rw [List.take_length] at r4
   obtain ⟨f1, f2⟩ := fl_spec x
   rcases f2 with ⟨f2, f3, f4, f5, f6⟩ | ⟨f2, f3, f4, f5, f6⟩
   ·rw [if_pos f2]
    have hmod : N % 2 < 2 := Nat.mod_lt _ (by decide)
    obtain ⟨w1, w2, w3, w4⟩ := wr_spec (d := D.flush x) ((N % 2 : Nat) : Int) (head N) (by omega) (by rw [f1, r2]; omega) (head_len N) f5
    rw [f4, List.nil_append] at w1
    rw [f3, r1, r4] at w2
    rcases w4 with ⟨w4, w5, w6⟩ | ⟨w4, w5, w6⟩
    ·rw [if_pos w4]
     obtain ⟨g1, g2⟩ := fl_spec (D.write (D.flush x) ((N % 2 : Nat) : Int) (head N))
     refine ⟨by rw [g1, w3, f1, r2], ?_⟩
     rcases g2 with ⟨g2, g3, g4, g5, g6⟩ | ⟨g2, g3, g4, g5, g6⟩
     ·refine .inl ⟨g2, g5, by rw [g6, w6, f6, r7], g4, ?_⟩
      rw [g3, w1, w2]
     ·refine .inr ⟨g2, g5, ?_, .inr ⟨by rw [g3, w2], .inr (by rw [g4, w1])⟩⟩
      rcases g6 with g6 | g6
      ·rw [<- r7, <- f6, <- w6]; exact g6
      ·rw [w5] at g6; cases g6
    ·rw [if_neg (by rw [w4]; decide)]
     exact ⟨by simp only; rw [w3, f1, r2], .inr ⟨w4, w5, by rw [<- r7, <- f6]; exact w6, .inr ⟨w2, .inr w1⟩⟩⟩
   ·rw [if_neg (by rw [f2]; decide)]
    refine ⟨by simp only; rw [f1, r2], .inr ⟨f2, f5, ?_, .inl ⟨by rw [f3, r1], (allP N ls ls.length).length, by rw [f4, r4, List.take_length]⟩⟩⟩
    rcases f6 with f6 | f6
    ·rw [<- r7]; exact f6
    ·rw [r6] at f6; cases f6
  ·rw [h0] at r6; cases r6
 ·rw [if_neg h0]
  refine ⟨r2, ?_⟩
  rcases r5 with ⟨r6, _⟩ | ⟨r6, r7, r8⟩
  ·exact absurd r6 h0
  ·exact .inr ⟨r6, r7, r8, .inl ⟨r1, m, r4⟩⟩
theorem kept_nil (ks : List Bool) : D.kept [] ks = [] := by cases ks <;> rfl
theorem img_mid {d R : D.Dsk} (hw : d.wait = []) {N : Nat} (ls : List (List UInt8)) (hu : used ls <= area d) (hn : R.n = d.n) (hRw : R.wait = []) (m : Nat) (ks : List Bool)
 (h : R.safe = D.over d.safe (D.kept (ents (areaAt d N) ((allP N ls ls.length).take m)) ks) ∨ R.safe = D.over d.safe (ents (areaAt d N) (allP N ls ls.length))) : Mid d R N := by
 have hl := allP_len N ls ls.length (Nat.le_refl _)
 rw [usedTo_all] at hl
 refine ⟨hn, fun i => ?_⟩
 rw [sector_img hw, sector_img hRw]
 rcases h with h | h
 ·rcases over_kept d.safe (areaAt d N) ((allP N ls ls.length).take m) ks i with h2 | ⟨h2, h3⟩
  ·left; unfold img; rw [h, h2]
  ·right
   have h4 := h2.2
   rw [List.length_take] at h4
   refine ⟨by omega, ?_⟩
   obtain ⟨r, j, b, e⟩ := allP_mem N ls ls.length _ (List.mem_of_mem_take (List.getElem_mem (l := (allP N ls ls.length).take m) (n := i - areaAt d N) (by omega)))
   exact ⟨r, j, b, by unfold img; rw [h, h3]; exact e⟩
 ·have h2 := over_ents d.safe (areaAt d N) (allP N ls ls.length) i
  by_cases h3 : areaAt d N <= i /\ i < areaAt d N + (allP N ls ls.length).length
  ·rw [dif_pos h3] at h2
   right
   refine ⟨by omega, ?_⟩
   obtain ⟨r, j, b, e⟩ := allP_mem N ls ls.length _ (List.getElem_mem (l := allP N ls ls.length) (n := i - areaAt d N) (by omega))
   exact ⟨r, j, b, by unfold img; rw [h, h2]; exact e⟩
  ·rw [dif_neg h3] at h2
   left; unfold img; rw [h, h2]
theorem img_full {d R : D.Dsk} (hn4 : 4 <= d.n) (hw : d.wait = []) {N : Nat} (hN : 1 <= N) (hN2 : N < 4294967296) (ht : Tb d (N - 1)) (ls : List (List UInt8)) (hlen : ∀ b ∈ ls, b.length <= 8192) (hu : used ls <= area d) (hn : R.n = d.n) (hRw : R.wait = []) (hRd : R.down = false)
 (h : R.safe = D.over (D.over d.safe (ents (areaAt d N) (allP N ls ls.length))) [(((N % 2 : Nat) : Int), head N)]) : Live R N ls := by
 have hl := allP_len N ls ls.length (Nat.le_refl _)
 rw [usedTo_all] at hl
 have hge := areaAt_ge d N
 have hm2 : N % 2 < 2 := Nat.mod_lt _ (by decide)
 have hs : ∀ i : Nat, D.sector R (i : Int) = if i = N % 2 then head N else if h3 : areaAt d N <= i /\ i < areaAt d N + (allP N ls ls.length).length then (allP N ls ls.length)[i - areaAt d N]'(by omega) else D.sector d (i : Int) := by
  intro i
  rw [sector_img hRw, sector_img hw]
  unfold img
  rw [h, over_one]
  by_cases h1 : i = N % 2
  ·rw [if_pos h1, if_pos (by omega)]; rfl
  ·rw [if_neg h1, if_neg (by omega), over_ents]
   by_cases h3 : areaAt d N <= i /\ i < areaAt d N + (allP N ls ls.length).length
   ·rw [dif_pos h3, dif_pos h3]; rfl
   ·rw [dif_neg h3, dif_neg h3]
 refine ⟨by rw [hn]; exact hn4, hRw, hRd, ?_, ?_, ?_, by rw [area_same hn]; exact hu, hlen, ?_, hN2⟩
 ·rw [hs, if_pos rfl]
 ·intro i hi htl
  rw [hs] at htl ⊢
  split
  ·rw [head_told _ hN2]; exact Nat.le_refl _
  ·rename_i h1
   rw [if_neg h1] at htl
   split
   ·rename_i h3
    obtain ⟨r, j, b, e⟩ := allP_mem N ls ls.length _ (List.getElem_mem (l := allP N ls ls.length) (n := i - areaAt d N) (by omega))
    rw [e, piece_told _ _ _ _ hN2]; exact Nat.le_refl _
   ·rename_i h3
    rw [dif_neg h3] at htl
    have := ht i (by rw [<- hn]; exact hi) htl
    omega
 ·intro k hk i hi
  obtain ⟨h1, h2⟩ := allP_get N ls ls.length (Nat.le_refl _) k hk i hi
  rw [areaAt_same hn, hs, if_neg (by omega), dif_pos (by omega)]
  rw [<- h2]
  congr 1
  omega
 ·intro j hj1 hj2 k _ _ i b e
  rw [area_same hn] at hj2
  have ha := areaAt_le d N
  have han := area_n d
  rw [areaAt_same hn, hs, if_neg (by omega), dif_neg (by omega)] at e
  have h1 := ht (areaAt d N + j) (by omega) (by rw [e]; exact piece_tells _ _ _ _)
  rw [e, piece_told _ _ _ _ hN2] at h1
  omega
theorem begin_law {d : D.Dsk} (hn4 : 4 <= d.n) (hd : d.down = false) (hw : d.wait = []) {N : Nat} (hN : 1 <= N) (hN2 : N < 4294967296) (ht : Tb d (N - 1)) (hp : (current d).2 = true -> (current d).1 % 2 ≠ N % 2) (ls : List (List UInt8)) (hlen : ∀ b ∈ ls, b.length <= 8192) (hu : used ls <= area d) :
 ((begin_ d N ls).2 = 0 /\ Live (begin_ d N ls).1 N ls /\ (begin_ d N ls).1.n = d.n /\ (begin_ d N ls).1.armed = d.armed) ∨
 ((begin_ d N ls).2 = 3 /\ (begin_ d N ls).1.down = true /\ d.armed = true /\ (begin_ d N ls).1.n = d.n /\ ∀ ks, ((current (D.restart (begin_ d N ls).1 ks) = current d /\ list (D.restart (begin_ d N ls).1 ks) = list d) ∨ Live (D.restart (begin_ d N ls).1 ks) N ls) /\ Tb (D.restart (begin_ d N ls).1 ks) N) := by
 have ho := begin_out hn4 hd hw N ls hu
 generalize begin_ d N ls = X at *
 obtain ⟨X, e⟩ := X
 obtain ⟨o1, o2⟩ := ho
 simp only at o1 o2 ⊢
 rcases o2 with ⟨o2, o3, o4, o5, o6⟩ | ⟨o2, o3, o4, o5⟩
 ·exact .inl ⟨o2, img_full hn4 hw hN hN2 ht ls hlen hu o1 o5 o3 o6, o1, o4⟩
 ·refine .inr ⟨o2, o3, o4, o1, fun ks => ?_⟩
  have hfull : (D.restart X ks).safe = D.over (D.over d.safe (ents (areaAt d N) (allP N ls ls.length))) [(((N % 2 : Nat) : Int), head N)] -> ((current (D.restart X ks) = current d /\ list (D.restart X ks) = list d) ∨ Live (D.restart X ks) N ls) /\ Tb (D.restart X ks) N := by
   intro h
   have hl := img_full hn4 hw hN hN2 ht ls hlen hu (R := D.restart X ks) o1 rfl rfl h
   exact ⟨.inr hl, hl.tb⟩
  have hmid : ∀ m ks', ((D.restart X ks).safe = D.over d.safe (D.kept (ents (areaAt d N) ((allP N ls ls.length).take m)) ks') ∨ (D.restart X ks).safe = D.over d.safe (ents (areaAt d N) (allP N ls ls.length))) -> ((current (D.restart X ks) = current d /\ list (D.restart X ks) = list d) ∨ Live (D.restart X ks) N ls) /\ Tb (D.restart X ks) N := by
   intro m ks' h
   have hm := img_mid (R := D.restart X ks) hw ls hu o1 rfl m ks' h
   exact ⟨.inl ⟨hm.cur, hm.list hp⟩, hm.tb hN2 ht (by omega)⟩
  have hsafe : (D.restart X ks).safe = D.over X.safe (D.kept X.wait ks) := rfl
  rcases o5 with ⟨o5, m, o6⟩ | ⟨o5, o6 | o6⟩
  ·exact hmid m ks (.inl (by rw [hsafe, o5, o6]))
  ·exact hmid 0 ks (.inr (by rw [hsafe, o5, o6, kept_nil]; rfl))
  ·cases ks with
   | nil => exact hmid 0 [] (.inr (by rw [hsafe, o5, o6]; rfl))
   | cons b ks =>
    cases b
    ·exact hmid 0 [] (.inr (by rw [hsafe, o5, o6]; show D.over _ (D.kept [] ks) = _; rw [kept_nil]; rfl))
    ·exact hfull (by rw [hsafe, o5, o6]; show D.over _ (_ :: D.kept [] ks) = _; rw [kept_nil])
end W5
end Go.Proofs.YtnjfioikpajhlaaGreat
namespace Go.Proofs.YtnjfioikpajhlaaGreat
open Go.RowKit
namespace W5
theorem usedTo_snoc (l : List (List UInt8)) (b : List UInt8) (k : Nat) (h : k <= l.length) : usedTo (l ++ [b]) k = usedTo l k := by unfold usedTo; rw [List.take_append_of_le_length h]
theorem usedTo_lt (l : List (List UInt8)) (k i : Nat) (h : k < l.length) (hi : i < need l[k].length) : usedTo l k + i < used l := by
 have h1 := usedTo_succ l k h
 have h2 := usedTo_le l (k + 1)
 omega
theorem app_live {d R : D.Dsk} {g : Nat} {recs : List (List UInt8)} {b : List UInt8} (h : Live d g recs) (hb : b.length <= 8192) (hfit : used recs + need b.length <= area d) (hn : R.n = d.n) (hRw : R.wait = []) (hRd : R.down = false)
 (hs : ∀ i : Nat, (∃ j, j < need b.length /\ i = areaAt d g + used recs + j /\ D.sector R (i : Int) = piece g recs.length j b) ∨ ((i < areaAt d g + used recs ∨ areaAt d g + used recs + need b.length <= i) /\ D.sector R (i : Int) = D.sector d (i : Int))) : Live R g (recs ++ [b]) := by
 have hge := areaAt_ge d g
 have hm2 : g % 2 < 2 := Nat.mod_lt _ (by decide)
 have old : ∀ i : Nat, (i < areaAt d g + used recs ∨ areaAt d g + used recs + need b.length <= i) -> D.sector R (i : Int) = D.sector d (i : Int) := by
  intro i hi
  rcases hs i with ⟨j, h1, h2, _⟩ | ⟨_, h2⟩
  ·omega
  ·exact h2
 refine ⟨by rw [hn]; exact h.n4, hRw, hRd, ?_, ?_, ?_, ?_, ?_, ?_, h.g32⟩
 ·rw [old _ (by omega)]; exact h.hd
 ·intro i hi ht
  rcases hs i with ⟨j, h1, h2, h3⟩ | ⟨_, h2⟩
  ·rw [h3, piece_told _ _ _ _ h.g32]; exact Nat.le_refl _
  ·rw [h2] at ht ⊢
   exact h.tb i (by rw [<- hn]; exact hi) ht
 ·intro k hk i hi
  rw [List.length_append] at hk
  rw [areaAt_same hn]
  rcases Nat.lt_or_ge k recs.length with h1 | h1
  ·have e : (recs ++ [b])[k]'(by rw [List.length_append]; exact hk) = recs[k] := List.getElem_append_left h1
   rw [e] at hi ⊢
   rw [usedTo_snoc _ _ _ (by omega), old _ (by have := usedTo_lt recs k i h1 hi; omega)]
   exact h.pc k h1 i hi
  ·obtain rfl : k = recs.length := by simp at hk; omega
   have e : (recs ++ [b])[recs.length]'(by rw [List.length_append]; exact hk) = b := by simp
   rw [e] at hi ⊢
   rw [usedTo_snoc _ _ _ (Nat.le_refl _), usedTo_all]
   rcases hs (areaAt d g + used recs + i) with ⟨j, h1, h2, h3⟩ | ⟨h2, _⟩
   ·obtain rfl : i = j := by omega
    exact h3
   ·omega
 ·rw [used_snoc, area_same hn]; exact hfit
 ·intro x hx
  rcases List.mem_append.1 hx with hx | hx
  ·exact h.len x hx
  ·obtain rfl := List.mem_singleton.1 hx; exact hb
 ·intro j hj1 hj2 k hk1 hk2 i x
  rw [used_snoc] at hj1
  rw [area_same hn] at hj2
  rw [List.length_append] at hk1
  rw [areaAt_same hn, old _ (by omega)]
  exact h.fresh j (by omega) hj2 k (by omega) hk2 i x
theorem app_crash {d R : D.Dsk} {g : Nat} {recs : List (List UInt8)} {b : List UInt8} (h : Live d g recs) (hb : b.length <= 8192) (hfit : used recs + need b.length <= area d) (hn : R.n = d.n) (hRw : R.wait = []) (hRd : R.down = false) (hok : D.Ok R)
 (hs : ∀ i : Nat, D.sector R (i : Int) = D.sector d (i : Int) ∨ ∃ j, j < need b.length /\ i = areaAt d g + used recs + j /\ D.sector R (i : Int) = piece g recs.length j b) : (list R = recs ∨ list R = recs ++ [b]) /\ current R = (g, true) /\ Tb R g := by
 have hge := areaAt_ge d g
 have old : ∀ i : Nat, (i < areaAt d g + used recs ∨ areaAt d g + used recs + need b.length <= i) -> D.sector R (i : Int) = D.sector d (i : Int) := by
  intro i hi
  rcases hs i with h2 | ⟨j, h1, h2, _⟩
  ·exact h2
  ·omega
 have hcur : current R = (g, true) := (current_congr (old 0 (by omega)) (old 1 (by omega))).trans h.cur
 have htb : Tb R g := by
  intro i hi ht
  rcases hs i with h2 | ⟨j, h1, h2, h3⟩
  ·rw [h2] at ht ⊢
   exact h.tb i (by rw [<- hn]; exact hi) ht
  ·rw [h3, piece_told _ _ _ _ h.g32]; exact Nat.le_refl _
 refine ⟨?_, hcur, htb⟩
 by_cases hall : ∀ j, j < need b.length -> D.sector R ((areaAt d g + used recs + j : Nat) : Int) = piece g recs.length j b
 ·right
  refine (app_live h hb hfit hn hRw hRd (fun i => ?_)).list hok
  by_cases h1 : i < areaAt d g + used recs ∨ areaAt d g + used recs + need b.length <= i
  ·exact .inr ⟨h1, old i h1⟩
  ·left
   refine ⟨i - (areaAt d g + used recs), by omega, by omega, ?_⟩
   have := hall (i - (areaAt d g + used recs)) (by omega)
   rwa [show areaAt d g + used recs + (i - (areaAt d g + used recs)) = i by omega] at this
 ·left
  obtain ⟨j, hj⟩ := Classical.not_forall.1 hall
  obtain ⟨hj1, hj2⟩ := Classical.not_imp.1 hj
  have hlu := len_le_used recs
  have har : area d <= 2047 := by rw [<- area_same hn]; exact area_le R hok.n2
  have hfr : ∀ j, j < need b.length -> D.sector R ((areaAt d g + used recs + j : Nat) : Int) ≠ piece g recs.length j b -> ∀ i x, D.sector R ((areaAt d g + used recs + j : Nat) : Int) ≠ piece g recs.length i x := by
   intro j hj1 hj2 i x
   rcases hs (areaAt d g + used recs + j) with h2 | ⟨j', h1, h2, h3⟩
   ·rw [h2, Nat.add_assoc]
    exact h.fresh (used recs + j) (by omega) (by omega) recs.length (Nat.le_refl _) (by omega) i x
   ·obtain rfl : j = j' := by omega
    exact absurd h3 hj2
  unfold W5.list
  rw [hcur, if_pos rfl]
  show read R g = recs
  refine read_back h.len (by rw [area_same hn]; exact h.fit) ?_ ?_
  ·intro k hk i hi
   have := usedTo_lt recs k i hk hi
   rw [areaAt_same hn, old _ (by omega)]
   exact h.pc k hk i hi
  ·cases hx : nextR R g recs.length (used recs) with
   | none => rfl
   | some x =>
    exfalso
    have hf := nextR_fits hok hx
    rw [areaAt_same hn] at hf
    have h0 := hf 0 (need_pos _)
    have hnb := need_pos b.length
    by_cases h0b : D.sector R ((areaAt d g + used recs + 0 : Nat) : Int) = piece g recs.length 0 b
    ·have hsz := piece_size g recs.length 0 x (nextR_some hok hx).2
     rw [<- h0, h0b, piece_size _ _ _ _ hb] at hsz
     exact hfr j hj1 hj2 j x (hf j (by rw [<- hsz]; exact hj1))
    ·exact hfr 0 hnb h0b 0 x h0
theorem appended_law {d : D.Dsk} {g : Nat} {recs : List (List UInt8)} {b : List UInt8} (cl : Bool) (h : Live d g recs) (hb : b.length <= 8192) (hfit : used recs + need b.length <= area d) :
 ((appended ⟨d, g, recs, cl⟩ b).2 = 0 /\ Live (appended ⟨d, g, recs, cl⟩ b).1 g (recs ++ [b]) /\ (appended ⟨d, g, recs, cl⟩ b).1.n = d.n /\ (appended ⟨d, g, recs, cl⟩ b).1.armed = d.armed) ∨
 ((appended ⟨d, g, recs, cl⟩ b).2 = 3 /\ (appended ⟨d, g, recs, cl⟩ b).1.down = true /\ d.armed = true /\ (appended ⟨d, g, recs, cl⟩ b).1.n = d.n /\ ∀ ks, D.Ok (D.restart (appended ⟨d, g, recs, cl⟩ b).1 ks) ->
  (list (D.restart (appended ⟨d, g, recs, cl⟩ b).1 ks) = recs ∨ list (D.restart (appended ⟨d, g, recs, cl⟩ b).1 ks) = recs ++ [b]) /\ current (D.restart (appended ⟨d, g, recs, cl⟩ b).1 ks) = (g, true) /\ Tb (D.restart (appended ⟨d, g, recs, cl⟩ b).1 ks) g) := by
 have ha := areaAt_le d g
 have han := area_n d
 have hn4 := h.n4
 have hp := need_pos b.length
 have hr := layTo_run h.down g recs.length (areaAt d g + used recs) b (need b.length) (by omega)
 rw [appended_eq]
 have hl : laid ⟨d, g, recs, cl⟩ b = layTo d g recs.length (areaAt d g + used recs) b (need b.length) := rfl
 rw [hl]
 generalize layTo d g recs.length (areaAt d g + used recs) b (need b.length) = x at *
 obtain ⟨x, e⟩ := x
 obtain ⟨r1, r2, m, r3, r4, r5⟩ := hr
 rw [h.wait, List.nil_append] at r4
 simp only at r1 r2 r4 r5 ⊢
 have crash : ∀ X : D.Dsk, X.safe = d.safe -> X.n = d.n -> X.wait = ents (areaAt d g + used recs) ((recP g recs.length b (need b.length)).take m) -> ∀ ks, D.Ok (D.restart X ks) ->
  (list (D.restart X ks) = recs ∨ list (D.restart X ks) = recs ++ [b]) /\ current (D.restart X ks) = (g, true) /\ Tb (D.restart X ks) g := by
  intro X q1 q2 q3 ks hok
  refine app_crash (R := D.restart X ks) h hb hfit q2 rfl rfl hok (fun i => ?_)
  rw [sector_img (show (D.restart X ks).wait = [] from rfl), sector_img h.wait]
  have hsafe : (D.restart X ks).safe = D.over X.safe (D.kept X.wait ks) := rfl
  rcases over_kept d.safe (areaAt d g + used recs) ((recP g recs.length b (need b.length)).take m) ks i with h2 | ⟨h2, h3⟩
  ·left; unfold img; rw [hsafe, q1, q3, h2]
  ·right
   have h4 := h2.2
   rw [List.length_take, recP_len] at h4
   refine ⟨i - (areaAt d g + used recs), by omega, by omega, ?_⟩
   unfold img
   rw [hsafe, q1, q3, h3, Option.getD_some, List.getElem_take, recP_get]
 by_cases h0 : e = 0
 ·rw [if_pos h0]
  rcases r5 with ⟨_, rfl, r6, r7⟩ | ⟨r6, _⟩
  ·obtain ⟨f1, f2⟩ := fl_spec x
   rcases f2 with ⟨f2, f3, f4, f5, f6⟩ | ⟨f2, f3, f4, f5, f6⟩
   ·refine .inl ⟨f2, app_live h hb hfit (f1.trans r2) f4 f5 (fun i => ?_), f1.trans r2, f6.trans r7⟩
    rw [sector_img f4, sector_img h.wait]
    have h2 := over_ents d.safe (areaAt d g + used recs) (recP g recs.length b (need b.length)) i
    rw [List.take_length] at r4
    by_cases h3 : areaAt d g + used recs <= i /\ i < areaAt d g + used recs + (recP g recs.length b (need b.length)).length
    ·rw [dif_pos h3, recP_get] at h2
     rw [recP_len] at h3
     refine .inl ⟨i - (areaAt d g + used recs), by omega, by omega, ?_⟩
     unfold img
     rw [f3, r1, r4, h2]; rfl
    ·rw [dif_neg h3] at h2
     rw [recP_len] at h3
     refine .inr ⟨by omega, ?_⟩
     unfold img
     rw [f3, r1, r4, h2]
   ·refine .inr ⟨f2, f5, ?_, f1.trans r2, crash _ (f3.trans r1) (f1.trans r2) (f4.trans r4)⟩
    rcases f6 with f6 | f6
    ·rw [<- r7]; exact f6
    ·rw [r6] at f6; cases f6
  ·rw [h0] at r6; cases r6
 ·rw [if_neg h0]
  rcases r5 with ⟨r6, _⟩ | ⟨r6, r7, r8⟩
  ·exact absurd r6 h0
  ·exact .inr ⟨r6, r7, r8, r2, crash x r1 r2 r4⟩
theorem append_law {d : D.Dsk} {g : Nat} {recs : List (List UInt8)} (h : Live d g recs) (b : List UInt8) :
 ((append ⟨d, g, recs, false⟩ b).1 = ⟨d, g, recs, false⟩ /\ ((append ⟨d, g, recs, false⟩ b).2 = 2 ∨ (append ⟨d, g, recs, false⟩ b).2 = 6)) ∨
 ((append ⟨d, g, recs, false⟩ b).2 = 0 /\ ∃ X, (append ⟨d, g, recs, false⟩ b).1 = ⟨X, g, recs ++ [b], false⟩ /\ Live X g (recs ++ [b]) /\ X.n = d.n /\ X.armed = d.armed) ∨
 ((append ⟨d, g, recs, false⟩ b).2 = 3 /\ d.armed = true /\ ∃ X, (append ⟨d, g, recs, false⟩ b).1 = ⟨X, g, recs, true⟩ /\ X.down = true /\ X.n = d.n /\ ∀ ks, D.Ok (D.restart X ks) -> (list (D.restart X ks) = recs ∨ list (D.restart X ks) = recs ++ [b]) /\ current (D.restart X ks) = (g, true) /\ Tb (D.restart X ks) g) := by
 rw [append_eq, if_neg (by decide)]
 by_cases h1 : 8192 < b.length
 ·rw [if_pos h1]; exact .inl ⟨rfl, .inl rfl⟩
 ·rw [if_neg h1]
  by_cases h2 : area d < used recs + need b.length
  ·rw [if_pos h2]; exact .inl ⟨rfl, .inr rfl⟩
  ·rw [if_neg h2]
   right
   rcases appended_law false h (by omega : b.length <= 8192) (by omega) with ⟨a1, a2, a3, a4⟩ | ⟨a1, a2, a3, a4, a5⟩
   ·left
    rw [if_pos a1]
    exact ⟨rfl, _, rfl, a2, a3, a4⟩
   ·right
    rw [if_neg (by rw [a1]; decide)]
    exact ⟨a1, a3, _, rfl, a2, a4, a5⟩
theorem cur_le {d : D.Dsk} {B : Nat} (hn : 4 <= d.n) (ht : Tb d B) : (current d).1 <= B := by
 have e : current d = curStep d (curStep d (0, false) 0) 1 := rfl
 have t0 : tells (D.sector d ((0 : Nat) : Int)) = true -> told (D.sector d ((0 : Nat) : Int)) <= B := ht 0 (by omega)
 have t1 : tells (D.sector d ((1 : Nat) : Int)) = true -> told (D.sector d ((1 : Nat) : Int)) <= B := ht 1 (by omega)
 have h0 : (curStep d (0, false) 0).1 <= B := by
  unfold curStep
  split
  ·rename_i hc
   have hb := head_tells (told (D.sector d ((0 : Nat) : Int)))
   rw [<- hc.2.1] at hb
   exact t0 hb
  ·exact Nat.zero_le _
 rw [e]
 generalize curStep d (0, false) 0 = x at *
 unfold curStep
 split
 ·rename_i hc
  have hb := head_tells (told (D.sector d ((1 : Nat) : Int)))
  rw [<- hc.2.1] at hb
  exact t1 hb
 ·exact h0
theorem renew_law {d : D.Dsk} {g : Nat} {recs : List (List UInt8)} (h : Live d g recs) (hok : D.Ok d) (hg : g < 4294967295) (ls : List (List UInt8)) :
 ((renew ⟨d, g, recs, false⟩ ls).1 = ⟨d, g, recs, false⟩ /\ ((renew ⟨d, g, recs, false⟩ ls).2 = 2 ∨ (renew ⟨d, g, recs, false⟩ ls).2 = 6)) ∨
 ((renew ⟨d, g, recs, false⟩ ls).2 = 0 /\ ∃ X, (renew ⟨d, g, recs, false⟩ ls).1 = ⟨X, g + 1, ls, false⟩ /\ Live X (g + 1) ls /\ X.n = d.n /\ X.armed = d.armed) ∨
 ((renew ⟨d, g, recs, false⟩ ls).2 = 3 /\ d.armed = true /\ ∃ X, (renew ⟨d, g, recs, false⟩ ls).1 = ⟨X, g, recs, true⟩ /\ X.down = true /\ X.n = d.n /\ ∀ ks, D.Ok (D.restart X ks) -> (list (D.restart X ks) = recs ∨ list (D.restart X ks) = ls) /\ ((current (D.restart X ks)).2 = true /\ g <= (current (D.restart X ks)).1) /\ Tb (D.restart X ks) (g + 1)) := by
 rw [renew_eq, if_neg (by decide)]
 by_cases h1 : ls.any (fun b => decide (8192 < b.length)) = true
 ·rw [if_pos h1]; exact .inl ⟨rfl, .inl rfl⟩
 ·rw [if_neg h1]
  by_cases h2 : area d < used ls
  ·rw [if_pos h2]; exact .inl ⟨rfl, .inr rfl⟩
  ·rw [if_neg h2, if_neg (by omega)]
   right
   have hlen : ∀ b ∈ ls, b.length <= 8192 := by
    intro b hb
    rcases Nat.lt_or_ge 8192 b.length with h3 | h3
    ·exact absurd (List.any_eq_true.2 ⟨b, hb, decide_eq_true h3⟩) h1
    ·exact h3
   unfold renewI
   rcases begin_law h.n4 h.down h.wait (N := g + 1) (by omega) (by omega) h.tb (by rw [h.cur]; intro _; simp only; omega) ls hlen (by omega) with ⟨a1, a2, a3, a4⟩ | ⟨a1, a2, a3, a4, a5⟩
   ·left
    rw [if_pos a1]
    exact ⟨rfl, _, rfl, a2, a3, a4⟩
   ·right
    rw [if_neg (by rw [a1]; decide)]
    refine ⟨a1, a3, _, rfl, a2, a4, fun ks hok2 => ?_⟩
    obtain ⟨b1, b2⟩ := a5 ks
    rcases b1 with ⟨c1, c2⟩ | c1
    ·exact ⟨.inl (c2.trans (h.list hok)), by rw [c1, h.cur]; exact ⟨rfl, Nat.le_refl _⟩, b2⟩
    ·exact ⟨.inr (c1.list hok2), by rw [c1.cur]; exact ⟨rfl, Nat.le_succ _⟩, b2⟩
theorem open_law {d : D.Dsk} (hn4 : 4 <= d.n) (hd : d.down = false) (hw : d.wait = []) (hok : D.Ok d) {B : Nat} (hB : B + 2 < 4294967295) (ht : Tb d B) :
 ((open_ d).2 = 0 /\ ∃ X N, (open_ d).1 = ⟨X, N, list d, false⟩ /\ Live X N (list d) /\ N = following d (current d).1 /\ (current d).1 < N /\ N <= B + 2 /\ X.n = d.n /\ X.armed = d.armed) ∨
 ((open_ d).2 = 3 /\ d.armed = true /\ (open_ d).1.d.down = true /\ (open_ d).1.d.n = d.n /\ ∀ ks, D.Ok (D.restart (open_ d).1.d ks) -> list (D.restart (open_ d).1.d ks) = list d /\ Tb (D.restart (open_ d).1.d ks) (B + 2) /\
  ((current d).2 = true -> (current (D.restart (open_ d).1.d ks)).2 = true /\ (current d).1 <= (current (D.restart (open_ d).1.d ks)).1)) := by
 obtain ⟨f1, f2, f3, f4⟩ := following_spec d (current d).1 B (by omega) (cur_le hn4 ht) ht
 obtain ⟨u1, u2⟩ := list_used hok
 have e : open_ d = renewI d (following d (current d).1 - 1) [] (begin_ d (following d (current d).1) (list d)) (list d) := by
  unfold open_
  rw [if_neg (by omega), if_neg (by rw [hd]; decide), if_neg (by omega)]
  unfold opened
  rw [renew_eq, if_neg (by decide), if_neg, if_neg (by omega), if_neg (by omega), show following d (current d).1 - 1 + 1 = following d (current d).1 by omega]
  intro h
  obtain ⟨x, hx, h9⟩ := List.any_eq_true.1 h
  have h8 := u2 x hx
  have := of_decide_eq_true h9
  omega
 rw [e]
 unfold renewI
 rcases begin_law hn4 hd hw (N := following d (current d).1) (by omega) (by omega) f4 (fun _ h => f3 h.symm) (list d) u2 u1 with ⟨a1, a2, a3, a4⟩ | ⟨a1, a2, a3, a4, a5⟩
 ·left
  rw [if_pos a1]
  refine ⟨rfl, _, following d (current d).1, ?_, a2, rfl, f1, f2, a3, a4⟩
  rw [show following d (current d).1 - 1 + 1 = following d (current d).1 by omega]
 ·right
  rw [if_neg (by rw [a1]; decide)]
  refine ⟨a1, a3, a2, a4, fun ks hok2 => ?_⟩
  obtain ⟨b1, b2⟩ := a5 ks
  have hbt : Tb (D.restart (begin_ d (following d (current d).1) (list d)).1 ks) (B + 2) := fun i hi ht2 => Nat.le_trans (b2 i hi ht2) f2
  rcases b1 with ⟨c1, c2⟩ | c1
  ·exact ⟨c2, hbt, fun h => by rw [c1]; exact ⟨h, Nat.le_refl _⟩⟩
  ·exact ⟨c1.list hok2, hbt, fun _ => by rw [c1.cur]; exact ⟨rfl, by simp only; omega⟩⟩
end W5
end Go.Proofs.YtnjfioikpajhlaaGreat
