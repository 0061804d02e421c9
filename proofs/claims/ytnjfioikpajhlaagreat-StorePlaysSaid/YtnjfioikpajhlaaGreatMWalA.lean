/- MWalA: WalA WalB WalC WalD. -/
import Derived.Test.YtnjfioikpajhlaaGreatProg
import Derived.Test.YtnjfioikpajhlaaGreatMPlain
import Derived.Test.YtnjfioikpajhlaaGreatMPlain
import Derived.Test.YtnjfioikpajhlaaGreatMBase
import Derived.Test.YtnjfioikpajhlaaGreatMBase
import Derived.Test.YtnjfioikpajhlaaGreatMWord
import Derived.Test.YtnjfioikpajhlaaGreatMWord
import Derived.Test.YtnjfioikpajhlaaGreatMWord
import Derived.Lib.SliceRun
import Derived.Test.YtnjfioikpajhlaaGreatMDisk
import Derived.Laws.Bits64b
set_option maxRecDepth 100000
set_option maxHeartbeats 64000000
namespace Go.Proofs.YtnjfioikpajhlaaGreat
open Go.RowKit
namespace W5
def needI (n : Int) : Int := if n < 1 then 1 else (n - 1) / 491 + 1
def need (n : Nat) : Nat := if n < 1 then 1 else (n - 1) / 491 + 1
def areaI (n : Int) : Int := if n < 2 then 0 else (n - 2) / 2
def sealed (b : List UInt8) : List UInt8 := (b ++ List.replicate (508 - b.length) 0) ++ W.be 4 (S.sum (b ++ List.replicate (508 - b.length) 0))
def head (gen : Nat) : List UInt8 := sealed (1 :: W.be 4 gen)
def pieceB (gen record i : Nat) (b : List UInt8) : List UInt8 :=
 (2 :: W.be 8 (gen * 4294967296 + record % 4294967296)) ++ W.be 8 (i % 65536 * 281474976710656 + need b.length % 65536 * 4294967296 + b.length % 4294967296) ++ (b.drop (i * 491)).take 491
def piece (gen record i : Nat) (b : List UInt8) : List UInt8 := sealed (pieceB gen record i b)
theorem need_nat (n : Nat) : needI (n : Int) = (need n : Int) := by unfold needI need; split <;> split <;> omega
theorem need_pos (n : Nat) : 1 <= need n := by unfold need; split <;> omega
theorem sealed_len (b : List UInt8) (h : b.length <= 508) : (sealed b).length = 512 := by
 unfold sealed
 rw [List.length_append, W.be_length, List.length_append, List.length_replicate]; omega
theorem head_len (gen : Nat) : (head gen).length = 512 := sealed_len _ (by rw [List.length_cons, W.be_length]; omega)
theorem pieceB_len (gen record i : Nat) (b : List UInt8) : (pieceB gen record i b).length <= 508 := by
 unfold pieceB
 simp only [List.length_append, List.length_cons, W.be_length, List.length_take]; omega
theorem piece_len (gen record i : Nat) (b : List UInt8) : (piece gen record i b).length = 512 := sealed_len _ (pieceB_len _ _ _ _)
end W5
theorem ownsRow_base5 {w : World} {base base' : Nat} {e : TypeId} {size : Nat} {v : Value} {n : Nat} {xs : List Value} (h : w.ownsRow base e size v n xs) (hb : base' <= base) : w.ownsRow base' e size v n xs := by
 obtain ⟨h1, h2⟩ := h
 refine ⟨h1, ?_⟩
 rcases h2 with h2 | ⟨g, cap, cur, rfl, hg, r⟩
 ·exact Or.inl h2
 ·exact Or.inr ⟨g, cap, cur, rfl, by omega, r⟩
def MadeB (w w' : World) (l : List UInt8) (e : Ending) : Prop := ∃ v', e = .returned v' /\ w'.ownsRow w.heap.size 5 1 v' l.length (l.map byteVal) /\ Ext w w'
theorem need_any (n : Int) (w : World) (h1 : -9223372036854775808 <= n) (h2 : n <= 9223372036854775807) :
 Calls Tryz.prog 46 #[.int .i64 n] w fun e w' => e = .returned (.int .i64 (W5.needI n)) /\ w = w' := by
 by_cases h : n < 1
 ·have e1 : W5.needI n = 1 := if_pos h
  rw [e1]
  clear e1
  go_enter Tryz.func46, Tryz.ntmps46
  go_wp2
  go_ret
  exact ⟨rfl, rfl⟩
 ·have e1 : W5.needI n = (n - 1) / 491 + 1 := if_neg h
  have e2 : (n - 1).tdiv 491 = (n - 1) / 491 := Int.tdiv_eq_ediv_of_nonneg (by omega)
  rw [e1]
  clear e1
  generalize hq : (n - 1) / 491 = q at *
  have h3 : 0 <= q /\ q <= 9223372036854775806 := by omega
  go_enter Tryz.func46, Tryz.ntmps46
  go_wp2
  go_ret
  exact ⟨rfl, rfl⟩
theorem area_any (n : Int) (w : World) (h1 : -9223372036854775808 <= n) (h2 : n <= 9223372036854775807) :
 Calls Tryz.prog 25 #[.int .i64 n] w fun e w' => e = .returned (.int .i64 (W5.areaI n)) /\ w = w' := by
 by_cases h : n < 2
 ·have e1 : W5.areaI n = 0 := if_pos h
  rw [e1]
  clear e1
  go_enter Tryz.func25, Tryz.ntmps25
  go_wp2
  go_ret
  exact ⟨rfl, rfl⟩
 ·have e1 : W5.areaI n = (n - 2) / 2 := if_neg h
  have e2 : (n - 2).tdiv 2 = (n - 2) / 2 := Int.tdiv_eq_ediv_of_nonneg (by omega)
  rw [e1]
  clear e1
  go_enter Tryz.func25, Tryz.ntmps25
  go_wp2
  go_ret
  exact ⟨rfl, rfl⟩
theorem equal_any (v1 v2 : Value) (l1 l2 : List UInt8) (w : World) (h1 : Bs w v1 l1) (h2 : Bs w v2 l2) :
 Calls Tryz.prog 87 #[v1, v2] w fun e w' => e = .returned (.bool (decide (l1 = l2))) /\ w = w' := by
 have c1 := h1.toString (P := Tryz.prog) 56 9 5 Tryz.underlying56 Tryz.underlying5 Tryz.underlying9
 have c2 := h2.toString (P := Tryz.prog) 56 9 5 Tryz.underlying56 Tryz.underlying5 Tryz.underlying9
 obtain ⟨a1, k1, rfl⟩ := h1.shape
 obtain ⟨a2, k2, rfl⟩ := h2.shape
 clear h1 h2
 by_cases h : l1 = l2
 ·subst h
  rw [decide_eq_true rfl]
  go_enter Tryz.func87, Tryz.ntmps87
  go_wp2
  go_ret
  exact ⟨rfl, rfl⟩
 ·rw [decide_eq_false h]
  have hb : (l1 == l2) = false := by rw [beq_eq_false_iff_ne]; exact h
  go_enter Tryz.func87, Tryz.ntmps87
  go_wp2
  go_ret
  exact ⟨rfl, rfl⟩
theorem clone_any (v : Value) (l : List UInt8) (w : World) (h : Bs w v l) (hl : l.length <= 140737488355328) :
 Calls Tryz.prog 56 #[v] w fun e w' => MadeB w w' l e := by
 obtain ⟨a, k, rfl⟩ := h.shape
 have H := qh h
 unfold MadeB
 cases a with
 | none =>
  have hk : l = [] := by
   obtain ⟨a', cap', hv, _, _, hn, _, h4⟩ := h
   obtain ⟨rfl, _, rfl⟩ := Value.slice.inj hv
   rcases h4 with h4 | ⟨b, off, hb, _⟩
   ·simpa using h4
   ·cases hb
  subst hk
  clear h
  have hq := fun w => Lib.run_eql_slice_nil (P := Tryz.prog) w 56 5 none 0 k 0 0 Tryz.underlying56
  go_enter Tryz.func56, Tryz.ntmps56
  go_wp2
  go_ret
  exact ⟨_, rfl, World.ownsRow_nil _ _ _ _, Ext.refl w⟩
 | some ad =>
  clear h
  have hq := fun w => Lib.run_eql_slice_nil (P := Tryz.prog) w 56 5 (some ad) l.length k 0 0 Tryz.underlying56
  go_enter Tryz.func56, Tryz.ntmps56
  go_wp2_with (first
   | (at_builtin; refine wpl_append_b _ rfl _ _ rfl w.heap.size (.slice (some ⟨w.heap.size, 0, none⟩) 0 0) [] (by rfl) (own_empty w w.heap.size 5 (Nat.le_refl _)) _ _ (by rfl) (H.out.ext (Ext.of_alloc w _)) l rfl hl (by simp) ?_; intro v' w2 hown hgrow)
   | fail)
  have hx : Ext w w2 := (Ext.of_alloc w _).grown hgrow (by intro k hk; simp [Value.ownBlock] at hk; omega)
  go_ret
  exact ⟨_, rfl, hown, hx⟩
theorem sum_one5 (v : Value) (l : List UInt8) (w : World) (h : Bs w v l) (c : v.oneCell' = true) :
 Calls Tryz.prog 105 #[.slice (some ⟨w.heap.size, 0, none⟩) 1 1] (w.alloc (.cells #[v] 56)) fun e w' => e = .returned (.int .u32 (S.sum l : Int)) /\ w.alloc (.cells #[v] 56) = w' := by
 have h2 := sum_any (.slice (some ⟨w.heap.size, 0, none⟩) 1 1) [l] (w.alloc (.cells #[v] 56)) (Rows2.one (Reads.one w v 56 c) (h.ext (Ext.of_alloc _ _)))
 simpa using h2
theorem sum_lt (l : List UInt8) : S.sum l < 4294967296 := by unfold S.sum; exact BitVec.isLt _
theorem sealed_any (v : Value) (l : List UInt8) (w : World) (h : Bs w v l) (hl : l.length <= 508) :
 Calls Tryz.prog 89 #[v] w fun e w' => MadeB w w' (W5.sealed l) e := by
 obtain ⟨i0, hi0, hz0, hz1, hz2⟩ := info_parts info_u8
 have H := qh h
 clear h
 unfold MadeB W5.sealed
 go_enter Tryz.func89, Tryz.ntmps89
 go_wp2_with (first
  | (at_make; refine wpl_make _ rfl _ _ 56 rfl w.heap.size 5 i0 (.int .u8 0) Tryz.underlying56 hi0 hz0 hz1 rfl .i64 .i64 508 508 508 508 rfl rfl rfl rfl (by omega) (by omega) (by unfold maxLen; omega) (Nat.le_refl _) ?_; intro w1 hown1 hx1 hg1)
  | ((with_reducible show wpList _ _ _ (⟨_, Op.call ⟨.builtin .copy, _, _⟩, _, _, _, _⟩ :: _) _ _); refine wpl_copy _ rfl _ _ _ _ rfl 5 Tryz.underlying56 size_u8 w.heap.size _ 508 _ (by rfl) hown1 _ (l.map byteVal) (by rfl) (H.out.ext hx1).reads l.length (by simp) hl ?_; intro w2 hown2 hg2)
  | fail)
 have hx2 : Ext w w2 := hx1.grown hg2 (by intro k hk; simp [Value.ownBlock] at hk; omega)
 have hrow : w2.ownsRow w.heap.size 5 1 (.slice (some ⟨w.heap.size, 0, none⟩) 508 508) 508 ((l ++ List.replicate (508 - l.length) 0).map byteVal) := by
  have e : (l ++ List.replicate (508 - l.length) (0 : UInt8)).map byteVal = l.map byteVal ++ (List.replicate 508 (Value.int .u8 0)).drop l.length := by
   rw [List.map_append, List.map_replicate, List.drop_replicate]; rfl
  rw [e]; exact hown2
 have hbs := Bs.of_own hrow
 have hxl : (l ++ List.replicate (508 - l.length) (0 : UInt8)).length = 508 := by rw [List.length_append, List.length_replicate]; omega
 generalize hxe : l ++ List.replicate (508 - l.length) 0 = x at *
 have HXE := qh hxe
 clear hxe
 have HX := qh hx2
 have HB := qh hbs
 have hsl := sum_lt x
 clear hown1 hown2 hg1 hg2 hx1 hx2 hrow hbs
 refine (sum_one5 _ x w2 HB.out rfl).mono ?_
 rintro e w3 ⟨rfl, rfl⟩
 generalize hne : S.sum x = n at *
 have HNE := qh hne
 clear hne
 have hx3 := HX.out.alloc (.cells #[.slice (some ⟨w.heap.size, 0, none⟩) 508 508] 56)
 have hb3 := HB.out.ext (Ext.of_alloc w2 (.cells #[.slice (some ⟨w.heap.size, 0, none⟩) 508 508] 56))
 go_wp2_with fail
 refine (put_any _ x n 4 _ (by omega) hb3 (by omega) (by omega) (by omega)).mono ?_
 rintro e w4 ⟨v4, rfl, hown4, hx4⟩
 have hs4 : W.sz 4 = 4 := by decide
 rw [hs4] at hown4
 have HO := qh (ownsRow_base5 hown4 (Nat.le_trans HX.out.size (Ext.of_alloc w2 (.cells #[.slice (some ⟨w.heap.size, 0, none⟩) 508 508] 56)).size))
 have HX4 := qh (hx3.trans hx4)
 clear hown4 hx4 hx3 hb3 HB
 go_wp2
 go_ret
 rw [HXE.out, HNE.out]
 exact ⟨_, rfl, HO.out, HX4.out⟩
theorem head_any (gen : Nat) (w : World) (h : gen < 4294967296) :
 Calls Tryz.prog 88 #[.int .u32 (gen : Int)] w fun e w' => MadeB w w' (W5.head gen) e := by
 unfold MadeB W5.head
 have hb := Bs.lit w [1] 5 (by simp [maxLen])
 have hx := Ext.of_alloc w (.cells ([1].map byteVal).toArray 5)
 have hgi : (gen : Int) < 4294967296 := by omega
 have hs4 : W.sz 4 = 4 := by decide
 go_enter Tryz.func88, Tryz.ntmps88
 go_wp2_with fail
 refine (put_any _ [1] gen 4 _ (by omega) hb (by simp) (by omega) (by omega)).mono ?_
 rintro e w2 ⟨v2, rfl, hown2, hx2⟩
 rw [hs4] at hown2
 have hb2 := Bs.of_own hown2
 have hx3 := hx.trans hx2
 go_wp2_with fail
 refine (sealed_any _ _ w2 hb2 (by rw [List.length_append, W.be_length]; simp)).mono ?_
 rintro e w3 ⟨v3, rfl, hown3, hx4⟩
 have HO := qh (ownsRow_base5 hown3 hx3.size)
 have HX := qh (hx3.trans hx4)
 clear hown2 hx2 hb2 hx3 hown3 hx4 hb hx
 go_wp2
 go_ret
 exact ⟨_, rfl, HO.out, HX.out⟩
end Go.Proofs.YtnjfioikpajhlaaGreat
namespace Go.Proofs.YtnjfioikpajhlaaGreat
open Go.RowKit
theorem or_nat (m y j P : Nat) (hP : 2 ^ j = P) (hm : m < P) (hy : y * P + m < 18446744073709551616) : bits BinOp.or IntKind.u64 ((y * P : Nat) : Int) (m : Int) = ((y * P + m : Nat) : Int) := by
 subst hP
 rw [bits_or_u64_nat _ _ (by omega) (by omega)]
 congr 1
 rw [Nat.or_comm, W.add_mul_or m y j hm, Nat.add_comm]
theorem need_17 (n : Nat) (h : n <= 8192) : W5.need n <= 17 := by unfold W5.need; split <;> omega
theorem need_lt (i n : Nat) (h : i < W5.need n) : n = 0 ∨ i * 491 < n := by unfold W5.need at h; split at h <;> omega
theorem or_three (i N L : Nat) (hi : i <= 100) (hN : N <= 17) (hL : L <= 8192) :
 ((i * 281474976710656 + N * 4294967296 + L : Nat) : Int) = (i : Int) * 281474976710656 + (N : Int) * 4294967296 + (L : Int) /\
 bits BinOp.or IntKind.u64 ((i : Int) * 281474976710656) ((N : Int) * 4294967296) = (i : Int) * 281474976710656 + (N : Int) * 4294967296 /\
 bits BinOp.or IntKind.u64 ((i : Int) * 281474976710656 + (N : Int) * 4294967296) (L : Int) = (i : Int) * 281474976710656 + (N : Int) * 4294967296 + (L : Int) := by
 have e1 : ((i * 281474976710656 : Nat) : Int) = (i : Int) * 281474976710656 := by simp
 have e2 : ((N * 4294967296 : Nat) : Int) = (N : Int) * 4294967296 := by simp
 have e3 : ((i * 281474976710656 + N * 4294967296 : Nat) : Int) = (i : Int) * 281474976710656 + (N : Int) * 4294967296 := by simp
 have e7 : (i * 65536 + N) * 4294967296 = i * 281474976710656 + N * 4294967296 := by rw [Nat.add_mul, Nat.mul_assoc]
 have e4 : (((i * 65536 + N) * 4294967296 : Nat) : Int) = (i : Int) * 281474976710656 + (N : Int) * 4294967296 := by rw [e7]; exact e3
 have e5 : (((i * 65536 + N) * 4294967296 + L : Nat) : Int) = (i : Int) * 281474976710656 + (N : Int) * 4294967296 + (L : Int) := by rw [Int.natCast_add, e4]
 have e6 : ((i * 281474976710656 + N * 4294967296 + L : Nat) : Int) = (i : Int) * 281474976710656 + (N : Int) * 4294967296 + (L : Int) := by rw [Int.natCast_add, e3]
 have h1 := or_nat (N * 4294967296) i 48 281474976710656 rfl (by omega) (by omega)
 have h2 := or_nat L (i * 65536 + N) 32 4294967296 rfl (by omega) (by omega)
 rw [e1, e2, e3] at h1
 rw [e4, e5] at h2
 exact ⟨e6, h1, h2⟩
theorem or_two (gen record : Nat) (hg : gen < 4294967296) (hr : record < 4294967296) : ((gen * 4294967296 + record : Nat) : Int) = (gen : Int) * 4294967296 + (record : Int) /\
 bits BinOp.or IntKind.u64 ((gen : Int) * 4294967296) (record : Int) = (gen : Int) * 4294967296 + (record : Int) := by
 have e1 : ((gen * 4294967296 : Nat) : Int) = (gen : Int) * 4294967296 := by simp
 have e2 : ((gen * 4294967296 + record : Nat) : Int) = (gen : Int) * 4294967296 + (record : Int) := by rw [Int.natCast_add, e1]
 have h1 := or_nat record gen 32 4294967296 rfl (by omega) (by omega)
 rw [e1, e2] at h1
 exact ⟨e2, h1⟩
theorem pieceB_eq (gen record i : Nat) (b : List UInt8) (hr : record < 4294967296) (hi : i <= 100) (hbl : b.length <= 8192) :
 W5.pieceB gen record i b = (2 :: W.be 8 (gen * 4294967296 + record)) ++ W.be 8 (i * 281474976710656 + W5.need b.length * 4294967296 + b.length) ++ (b.drop (i * 491)).take 491 := by
 have h1 := need_17 _ hbl
 unfold W5.pieceB
 rw [Nat.mod_eq_of_lt hr, Nat.mod_eq_of_lt (Nat.lt_of_le_of_lt hi (by decide)), Nat.mod_eq_of_lt (Nat.lt_of_le_of_lt h1 (by decide)), Nat.mod_eq_of_lt (Nat.lt_of_le_of_lt hbl (by decide))]
theorem Bs.sub {w : World} {b off len cap : Nat} {l : List UInt8} (h : Bs w (.slice (some ⟨b, off, none⟩) len cap) l) (k m : Nat) (hk : k + m <= len) : Bs w (.slice (some ⟨b, off + k, none⟩) m (cap - k)) ((l.drop k).take m) := by
 obtain ⟨a', cap', hv, h1, h2, hn, h3, h4⟩ := h
 rw [List.length_map] at hv h1
 obtain ⟨rfl, rfl, rfl⟩ := Value.slice.inj hv
 have hlen : ((l.drop k).take m).length = m := by rw [List.length_take, List.length_drop]; omega
 refine ⟨some ⟨b, off + k, none⟩, cap - k, by rw [List.length_map, hlen], by rw [List.length_map, hlen]; omega, by omega, by simp, bytes_one _, ?_⟩
 rcases h4 with h4 | ⟨b', off', hb, hc⟩
 ·left
  have : l = [] := by simpa using h4
  subst this; simp
 ·right
  obtain ⟨rfl, rfl, _⟩ := Addr.mk.inj (Option.some.inj hb)
  refine ⟨b, off + k, rfl, fun j u hj => ?_⟩
  have hj' := (List.getElem?_eq_some_iff.1 hj).1
  rw [List.length_map, hlen] at hj'
  rw [List.map_take, List.getElem?_take, if_pos hj', List.map_drop, List.getElem?_drop] at hj
  have h5 := hc (k + j) u hj
  rw [<- Nat.add_assoc] at h5
  exact h5
theorem piece_any (gen record i : Nat) (v : Value) (b : List UInt8) (w : World) (hg : gen < 4294967296) (hr : record < 4294967296) (hi : i <= 100) (h : Bs w v b) (hbl : b.length <= 8192) (hib : i < W5.need b.length) :
 Calls Tryz.prog 91 #[.int .u32 (gen : Int), .int .i64 (record : Int), .int .i64 (i : Int), v] w fun e w' => MadeB w w' (W5.piece gen record i b) e := by
 have H := qh h
 obtain ⟨a, cap, rfl⟩ := h.shape
 clear h
 unfold MadeB W5.piece
 have hb0 := Bs.lit w [2] 5 (by simp [maxLen])
 have hx0 := Ext.of_alloc w (.cells ([2].map byteVal).toArray 5)
 have hgi : (gen : Int) < 4294967296 := by omega
 have hri : (record : Int) < 4294967296 := by omega
 have hii : (i : Int) <= 100 := by omega
 have hbi : (b.length : Int) <= 8192 := by omega
 have hs8 : W.sz 8 = 8 := by decide
 obtain ⟨ec1, hor1⟩ := or_two gen record hg hr
 have hnd : W5.need b.length <= 17 := need_17 _ hbl
 have hil := need_lt i b.length hib
 have hil2 := hib
 have HI0 := qh (show b.length = 0 -> i = 0 from fun h => by
  rw [h] at hib
  have h1 : W5.need 0 = 1 := rfl
  omega)
 obtain ⟨ec3, hor2, hor3⟩ := or_three i (W5.need b.length) b.length hi hnd hbl
 have hndi : (W5.need b.length : Int) <= 17 := by omega
 have hnn := W5.need_nat b.length
 have hpb := pieceB_eq gen record i b hr hi hbl
 have HPB := qh hpb
 clear hpb
 go_enter Tryz.func91, Tryz.ntmps91
 go_wp2_with fail
 rw [<- ec1]
 refine (put_any _ [2] (gen * 4294967296 + record) 8 _ (by omega) hb0 (by simp) (by omega) (by omega)).mono ?_
 rintro e w2 ⟨v2, rfl, hown2, hx2⟩
 rw [hs8] at hown2
 have HO2 := qh hown2
 have HX2 := qh (hx0.trans hx2)
 clear hown2 hx2 hx0 hb0 hor1 ec1
 go_wp2_with fail
 refine (need_any (b.length : Int) w2 (by omega) (by omega)).mono ?_
 rintro e w3 ⟨rfl, rfl⟩
 rw [hnn]
 generalize W5.need b.length = N at *
 go_wp2_with fail
 rw [<- ec3]
 refine (put_any v2 _ (i * 281474976710656 + N * 4294967296 + b.length) 8 w2 (by omega) (Bs.of_own HO2.out) (by rw [List.length_append, W.be_length]; simp) (by omega) (by omega)).mono ?_
 rintro e w3 ⟨v3, rfl, hown3, hx3⟩
 rw [hs8] at hown3
 have HX3 := qh (HX2.out.trans hx3)
 have HO3 := qh (ownsRow_base5 hown3 HX2.out.size)
 have hbw := qh (H.out.ext HX3.out)
 clear hown3 hx3 HX2 HO2 hor2 hor3 ec3
 by_cases hbe : b.length = 0
 ·obtain rfl : b = [] := List.eq_nil_of_length_eq_zero hbe
  obtain rfl : i = 0 := HI0.out rfl
  have hsub0 := hbw.out
  clear hnn hndi hs8 hgi hri
  cases a with
  | none =>
   have hsub : Hid (Bs w3 (.slice none 0 cap) ((([] : List UInt8).drop (0 * 491)).take 491)) := hsub0
   go_wp2_with (first
    | (at_builtin; refine wpl_append_b _ rfl _ _ rfl w.heap.size v3 _ (by rfl) HO3.out _ _ (by rfl) hsub.out _ HPB.out.symm (by have := W5.pieceB_len gen record 0 []; omega) HX3.out.size ?_; intro v4 w4 hown4 hgrow4)
    | fail)
   have hx4 : Ext w w4 := HX3.out.grown hgrow4 (fun k hk => (HO3.out.lt k hk).1)
   have HX4 := qh hx4
   have HO4 := qh hown4
   clear hx4 hown4 hgrow4 hsub HX3 HO3
   refine (sealed_any v4 _ w4 (Bs.of_own HO4.out) (W5.pieceB_len gen record 0 [])).mono ?_
   rintro e w5 ⟨v5, rfl, hown5, hx5⟩
   have HX5 := qh (HX4.out.trans hx5)
   have HO5 := qh (ownsRow_base5 hown5 HX4.out.size)
   clear hown5 hx5 HX4 HO4
   go_wp2
   go_ret
   exact ⟨_, rfl, HO5.out, HX5.out⟩
  | some ad =>
   have hsub : Hid (Bs w3 (.slice (some ad) 0 cap) ((([] : List UInt8).drop (0 * 491)).take 491)) := hsub0
   go_wp2_with (first
    | (at_builtin; refine wpl_append_b _ rfl _ _ rfl w.heap.size v3 _ (by rfl) HO3.out _ _ (by rfl) hsub.out _ HPB.out.symm (by have := W5.pieceB_len gen record 0 []; omega) HX3.out.size ?_; intro v4 w4 hown4 hgrow4)
    | fail)
   have hx4 : Ext w w4 := HX3.out.grown hgrow4 (fun k hk => (HO3.out.lt k hk).1)
   have HX4 := qh hx4
   have HO4 := qh hown4
   clear hx4 hown4 hgrow4 hsub HX3 HO3
   refine (sealed_any v4 _ w4 (Bs.of_own HO4.out) (W5.pieceB_len gen record 0 [])).mono ?_
   rintro e w5 ⟨v5, rfl, hown5, hx5⟩
   have HX5 := qh (HX4.out.trans hx5)
   have HO5 := qh (ownsRow_base5 hown5 HX4.out.size)
   clear hown5 hx5 HX4 HO4
   go_wp2
   go_ret
   exact ⟨_, rfl, HO5.out, HX5.out⟩
 ·rcases hbw.out.open with ⟨_, _, _, h0, _⟩ | ⟨bb, off, cap', he, hp, hcap, hcm, _, hcc⟩
  ·exact absurd (by rw [h0]; rfl) hbe
  ·obtain ⟨rfl, _, rfl⟩ := Value.slice.inj he
   have hil2 : i * 491 < b.length := by omega
   have hcp1 : ¬ cap <= i * 491 := by omega
   have hcp2 : ¬ cap - i * 491 = 0 := by omega
   have hcp3 : ¬ i * 491 = cap := by omega
   have hcp4 : ¬ cap = i * 491 := by omega
   have hm1 : (i : Int) * 491 <= (b.length : Int) := by omega
   have hc1 : (b.length : Int) <= (cap : Int) := by omega
   clear hcc hnn hndi hs8 hgi hri
   by_cases hge : ((i : Int) + 1) * 491 < (b.length : Int)
   ·have hsub : Hid (Bs w3 (.slice (some ⟨bb, off + i * 491, none⟩) (((((i : Int) + 1) * 491).toNat) - i * 491) (cap - i * 491)) ((b.drop (i * 491)).take 491)) := by
     have e : ((((i : Int) + 1) * 491).toNat) - i * 491 = 491 := by omega
     rw [e]
     exact hbw.out.sub (i * 491) 491 (by omega)
    go_wp2_with (first
     | (at_builtin; refine wpl_append_b _ rfl _ _ rfl w.heap.size v3 _ (by rfl) HO3.out _ _ (by rfl) hsub.out _ HPB.out.symm (by have := W5.pieceB_len gen record i b; omega) HX3.out.size ?_; intro v4 w4 hown4 hgrow4)
     | fail)
    have hx4 : Ext w w4 := HX3.out.grown hgrow4 (fun k hk => (HO3.out.lt k hk).1)
    have HX4 := qh hx4
    have HO4 := qh hown4
    clear hx4 hown4 hgrow4 hsub HX3 HO3
    refine (sealed_any v4 _ w4 (Bs.of_own HO4.out) (W5.pieceB_len gen record i b)).mono ?_
    rintro e w5 ⟨v5, rfl, hown5, hx5⟩
    have HX5 := qh (HX4.out.trans hx5)
    have HO5 := qh (ownsRow_base5 hown5 HX4.out.size)
    clear hown5 hx5 HX4 HO4
    go_wp2
    go_ret
    exact ⟨_, rfl, HO5.out, HX5.out⟩
   ·have hge2 : (b.length : Int) <= ((i : Int) + 1) * 491 := by omega
    have hsub : Hid (Bs w3 (.slice (some ⟨bb, off + i * 491, none⟩) (b.length - i * 491) (cap - i * 491)) ((b.drop (i * 491)).take 491)) := by
     have e : (b.drop (i * 491)).take 491 = (b.drop (i * 491)).take (b.length - i * 491) := by
      rw [List.take_of_length_le (by rw [List.length_drop]; omega), List.take_of_length_le (by rw [List.length_drop]; omega)]
     rw [e]
     exact hbw.out.sub (i * 491) (b.length - i * 491) (by omega)
    go_wp2_with (first
     | (at_builtin; refine wpl_append_b _ rfl _ _ rfl w.heap.size v3 _ (by rfl) HO3.out _ _ (by rfl) hsub.out _ HPB.out.symm (by have := W5.pieceB_len gen record i b; omega) HX3.out.size ?_; intro v4 w4 hown4 hgrow4)
     | fail)
    have hx4 : Ext w w4 := HX3.out.grown hgrow4 (fun k hk => (HO3.out.lt k hk).1)
    have HX4 := qh hx4
    have HO4 := qh hown4
    clear hx4 hown4 hgrow4 hsub HX3 HO3
    refine (sealed_any v4 _ w4 (Bs.of_own HO4.out) (W5.pieceB_len gen record i b)).mono ?_
    rintro e w5 ⟨v5, rfl, hown5, hx5⟩
    have HX5 := qh (HX4.out.trans hx5)
    have HO5 := qh (ownsRow_base5 hown5 HX4.out.size)
    clear hown5 hx5 HX4 HO4
    go_wp2
    go_ret
    exact ⟨_, rfl, HO5.out, HX5.out⟩
end Go.Proofs.YtnjfioikpajhlaaGreat
namespace Go.Proofs.YtnjfioikpajhlaaGreat
open Go.RowKit
namespace W5
def told (b : List UInt8) : Nat := (W.get b 1 4).1
def curStep (d : D.Dsk) (x : Nat × Bool) (s : Nat) : Nat × Bool :=
 if told (D.sector d (s : Int)) % 2 = s /\ D.sector d (s : Int) = head (told (D.sector d (s : Int))) /\ (x.2 = false ∨ x.1 < told (D.sector d (s : Int))) then (told (D.sector d (s : Int)), true) else x
def curTo (d : D.Dsk) (k : Nat) : Nat × Bool := (List.range k).foldl (curStep d) (0, false)
def current (d : D.Dsk) : Nat × Bool := curTo d 2
theorem curTo_succ (d : D.Dsk) (k : Nat) : curTo d (k + 1) = curStep d (curTo d k) k := by unfold curTo; rw [List.range_succ, List.foldl_append]; rfl
def tells (b : List UInt8) : Bool := (b.headD 0 == 1 || b.headD 0 == 2) && decide (b = sealed (b.take 508))
def folTo (d : D.Dsk) (gen : Nat) (k : Nat) : Nat := (List.range k).foldl (fun (m i : Nat) => if tells (D.sector d (i : Int)) then max m (told (D.sector d (i : Int))) else m) gen
theorem folTo_succ (d : D.Dsk) (gen k : Nat) : folTo d gen (k + 1) = if tells (D.sector d (k : Int)) then max (folTo d gen k) (told (D.sector d (k : Int))) else folTo d gen k := by unfold folTo; rw [List.range_succ, List.foldl_append]; rfl
def following (d : D.Dsk) (gen : Nat) : Nat := folTo d gen d.n.toNat + 1 + (if folTo d gen d.n.toNat % 2 = gen % 2 then 0 else 1)
theorem told_lt (b : List UInt8) : told b < 4294967296 := by
 unfold told W.get
 split
 ·decide
 ·split
  ·decide
  ·refine Nat.lt_of_lt_of_le (W.num_lt _) ?_
   have h : ((b.drop 1).take 4).length <= 4 := by rw [List.length_take]; omega
   refine Nat.le_trans (Nat.pow_le_pow_right (by decide) h) (by decide)
theorem curTo_lt (d : D.Dsk) : ∀ k, (curTo d k).1 < 4294967296
 | 0 => by show (0 : Nat) < _; decide
 | k + 1 => by
  rw [curTo_succ]
  unfold curStep
  split
  ·exact told_lt _
  ·exact curTo_lt d k
theorem folTo_lt (d : D.Dsk) (gen : Nat) (h : gen < 4294967296) : ∀ k, folTo d gen k < 4294967296
 | 0 => h
 | k + 1 => by
  have h1 := folTo_lt d gen h k
  have h2 := told_lt (D.sector d (k : Int))
  rw [folTo_succ]
  split
  ·omega
  ·exact h1
end W5
theorem current_any {w0 w : World} {X : Nat -> Prop} {p : Nat} {d : D.Dsk} (h : Held w0 w X p d) (hn : 4 <= d.n) (hdn : d.down = false) :
 Calls Tryz.prog 58 #[.pointer (some ⟨p, 0, none⟩)] w fun e w' => e = .returned (.tuple #[.int .u32 ((W5.current d).1 : Int), .bool (W5.current d).2]) /\ Ext w w' := by
 have HD := qh h
 have hok := h.okd
 clear h
 go_enter Tryz.func58, Tryz.ntmps58
 go_wp2
 go_loopw [4, 5, 12] (fun bv hv iv wr => ∃ k m : Nat, ∃ t : Bool, k <= 2 /\ iv = .int .i64 (k : Int) /\ bv = .int .u32 (m : Int) /\ hv = .bool t /\ Hid ((m, t) = W5.curTo d k) /\ Hid (Ext w wr)) (fun _ _ iv _ => 2 - (intOf iv).toNat)
 case atStart => exact ⟨0, 0, false, by omega, rfl, rfl, rfl, rfl, Ext.refl w⟩
 case round =>
  obtain ⟨k, m, t, hk, rfl, rfl, rfl, hmt, hx⟩ := hrel
  by_cases hlt : k < 2
  ·have hlti : (k : Int) < 2 := by omega
   have hre : D.readE d (k : Int) = 0 := by
    unfold D.readE; rw [if_neg (by omega), hdn]; rfl
   have hrb : D.readB d (k : Int) = D.sector d (k : Int) := by
    unfold D.readB; rw [if_neg (by omega), hdn]; rfl
   have hsl := sector_len hok (k : Int)
   have hst := W5.curTo_succ d k
   rw [<- hmt.out] at hst
   unfold W5.curStep at hst
   have hml : m < 4294967296 := by have := W5.curTo_lt d k; rw [<- hmt.out] at this; exact this
   go_wp2_with fail
   refine (held_read (HD.out.after_ext hx.out) (k : Int)).mono ?_
   rintro e w2 ⟨v, rfl, hown, hx2⟩
   rw [hre]
   rw [hrb] at hown
   have HX2 := qh (hx.out.trans hx2)
   have HB := qh (Bs.of_own hown)
   clear hown hx2 hx hre hrb
   generalize D.sector d (k : Int) = B at *
   have htl := W5.told_lt B
   have hga := get_any v B 1 4 w2 HB.out (by omega)
   have htd : (W.get B 1 4).1 = W5.told B := rfl
   rw [htd] at hga
   have HGA := qh hga
   clear hga htd
   generalize W5.told B = T at *
   have HST := qh hst
   clear hst
   have hti : (T : Int) < 4294967296 := by omega
   have hmi : (m : Int) < 4294967296 := by omega
   obtain ⟨r, hr⟩ : ∃ r, r = T % 2 := ⟨_, rfl⟩
   have htm : (T : Int).tmod 2 = (r : Int) := by rw [hr, Int.ofNat_tmod]; rfl
   have hr2 : (r : Int) <= 1 := by omega
   rw [<- hr] at HST
   have HR := qh hr
   clear hr
   go_wp2_with fail
   refine HGA.out.mono ?_
   rintro e w3 ⟨rfl, rfl⟩
   clear HGA
   by_cases h1 : r = k
   ·have h1i : ((r : Int) == (k : Int)) = true := by rw [beq_iff_eq]; omega
    subst h1
    go_wp2_with fail
    refine (head_any T w2 (by omega)).mono ?_
    rintro e w4 ⟨v4, rfl, hown4, hx4⟩
    have HX4 := qh (HX2.out.trans hx4)
    have hq := equal_any v v4 B (W5.head T) w4 (HB.out.ext hx4) (Bs.of_own hown4)
    have HQ := qh hq
    clear hq hown4 hx4
    go_wp2_with fail
    refine HQ.out.mono ?_
    clear HQ
    rintro e w5 ⟨rfl, rfl⟩
    by_cases h2 : B = W5.head T
    ·rw [decide_eq_true h2]
     cases t
     ·have hs : Hid ((T, true) = W5.curTo d (r + 1)) := by
       exact (HST.out.trans (if_pos (by refine ⟨?_, h2, .inl rfl⟩; first | rfl | trivial))).symm
      clear h2 HST
      go_wp2
      go_roundw
      case rel => exact ⟨r + 1, T, true, by omega, by go_num, rfl, rfl, hs, HX4⟩
      case measure => (simp [intOf]; try omega)
     ·by_cases h3 : m < T
      ·have h3i : (m : Int) < (T : Int) := by omega
       have hs : Hid ((T, true) = W5.curTo d (r + 1)) := by
        exact (HST.out.trans (if_pos (by refine ⟨?_, h2, .inr h3⟩; first | rfl | trivial))).symm
       clear h2 HST h3
       go_wp2
       go_roundw
       case rel => exact ⟨r + 1, T, true, by omega, by go_num, rfl, rfl, hs, HX4⟩
       case measure => (simp [intOf]; try omega)
      ·have h3i : (T : Int) <= (m : Int) := by omega
       have hs : Hid ((m, true) = W5.curTo d (r + 1)) := by
        exact (HST.out.trans (if_neg (by rintro ⟨_, _, h | h⟩; cases h; exact h3 h))).symm
       clear h2 HST htm hsl htl hml
       go_wp2
       go_roundw
       case rel => exact ⟨r + 1, m, true, by omega, by go_num, rfl, rfl, hs, HX4⟩
       case measure => (simp [intOf]; try omega)
    ·rw [decide_eq_false h2]
     have hs : Hid ((m, t) = W5.curTo d (r + 1)) := by
      exact (HST.out.trans (if_neg (by rintro ⟨_, h, _⟩; exact h2 h))).symm
     clear h2 HST
     go_wp2
     go_roundw
     case rel => exact ⟨r + 1, m, t, by omega, by go_num, rfl, rfl, hs, HX4⟩
     case measure => (simp [intOf]; try omega)
   ·have h1i : ((r : Int) == (k : Int)) = false := by rw [beq_eq_false_iff_ne]; omega
    have hs : Hid ((m, t) = W5.curTo d (k + 1)) := by
     exact (HST.out.trans (if_neg (by rintro ⟨h, _, _⟩; exact h1 h))).symm
    clear h1 HST
    go_wp2
    go_roundw
    case rel => exact ⟨k + 1, m, t, by omega, by go_num, rfl, rfl, hs, HX2⟩
    case measure => (simp [intOf]; try omega)
  ·obtain rfl : k = 2 := by omega
   have HXF := qh hx.out
   have HM := qh hmt.out
   clear hx hmt
   go_wp2
   go_ret2
   unfold W5.current
   rw [<- HM.out]
   exact ⟨rfl, HXF.out⟩
end Go.Proofs.YtnjfioikpajhlaaGreat
namespace Go.Proofs.YtnjfioikpajhlaaGreat
open Go.RowKit
theorem held_sec {w0 w : World} {X : Nat -> Prop} {p : Nat} {d : D.Dsk} (h : Held w0 w X p d) (hdn : d.down = false) (i : Int) (h1 : 0 <= i) (h2 : i < d.n) :
 Calls Tryz.prog 81 #[.pointer (some ⟨p, 0, none⟩), .int .i64 i] w fun e w' => ∃ b cap, e = .returned (.tuple #[.slice (some ⟨b, 0, none⟩) 512 cap, .int .i64 0]) /\ 512 <= cap /\ cap <= maxLen /\ w.heap.size <= b /\
  Bs w' (.slice (some ⟨b, 0, none⟩) 512 cap) (D.sector d i) /\ w'.ownsRow w.heap.size 119 1 (.slice (some ⟨b, 0, none⟩) 512 cap) 512 ((D.sector d i).map byteVal) /\ Ext w w' /\ w'.cell? ⟨b, 0, none⟩ = some (.int .u8 (((D.sector d i).headD 0).toNat : Int)) := by
 have hre : D.readE d i = 0 := by
  unfold D.readE; rw [if_neg (by omega), hdn]; rfl
 have hrb : D.readB d i = D.sector d i := by
  unfold D.readB; rw [if_neg (by omega), hdn]; rfl
 have hl := sector_len h.okd i
 refine (held_read h i).mono ?_
 rintro e w2 ⟨v, rfl, hown, hx2⟩
 rw [hre]
 rw [hrb, hl] at hown
 obtain ⟨b, cap, rfl, hb, _, hc1, hc2, hcc⟩ := own_open hown (by decide)
 refine ⟨b, cap, rfl, hc1, hc2, hb, ?_, hown, hx2, ?_⟩
 ·have := Bs.of_own (l := D.sector d i) (n := 512) hown
  rw [<- hl] at this ⊢; exact this
 ·rw [hcc 0 (by decide)]
  rcases hs : D.sector d i with _ | ⟨x, t⟩
  ·rw [hs] at hl; cases hl
  ·rfl
theorem tells_eq (B : List UInt8) : W5.tells B = decide (((B.headD 0).toNat = 1 ∨ (B.headD 0).toNat = 2) /\ B = W5.sealed (B.take 508)) := by
 unfold W5.tells
 generalize B.headD 0 = x
 rw [Bool.eq_iff_iff]
 simp only [Bool.and_eq_true, Bool.or_eq_true, beq_iff_eq, decide_eq_true_eq]
 have e (k : UInt8) : x = k ↔ x.toNat = k.toNat := UInt8.toNat_inj.symm
 rw [e 1, e 2]; rfl
theorem xor_and_one (m g : Nat) (hm : m < 4294967296) (hg : g < 4294967296) : bits BinOp.and IntKind.u64 (bits BinOp.xor IntKind.u64 (m : Int) (g : Int)) 1 = (if m % 2 = g % 2 then (0 : Nat) else 1 : Nat) := by
 have hx : m ^^^ g < 2 ^ 64 := Nat.xor_lt_two_pow (by omega) (by omega)
 have e1 : (BitVec.ofInt 64 (m : Int)).toNat = m := by
  rw [BitVec.ofInt_natCast, BitVec.toNat_ofNat]; exact Nat.mod_eq_of_lt (by omega)
 have e2 : (BitVec.ofInt 64 (g : Int)).toNat = g := by
  rw [BitVec.ofInt_natCast, BitVec.toNat_ofNat]; exact Nat.mod_eq_of_lt (by omega)
 have h1 : bits BinOp.xor IntKind.u64 (m : Int) (g : Int) = ((m ^^^ g : Nat) : Int) := by
  show IntKind.u64.wrap ((BitVec.ofInt 64 (m : Int) ^^^ BitVec.ofInt 64 (g : Int)).toNat : Int) = _
  rw [BitVec.toNat_xor, e1, e2, IntKind.wrap_u64]
  omega
 rw [h1, show (1 : Int) = ((1 : Nat) : Int) from rfl, bits_and_u64_nat _ _ (by omega) (by decide)]
 congr 1
 rw [Nat.and_one_is_mod, show (m ^^^ g) % 2 = (m % 2) ^^^ (g % 2) from by have := @Nat.xor_mod_two_pow m g 1; simpa using this]
 rcases Nat.mod_two_eq_zero_or_one m with a | a <;> rcases Nat.mod_two_eq_zero_or_one g with b | b <;> rw [a, b] <;> rfl
theorem following_any {w0 w : World} {X : Nat -> Prop} {p : Nat} {d : D.Dsk} (h : Held w0 w X p d) (hdn : d.down = false) (gen : Nat) (hg : gen < 4294967296) :
 Calls Tryz.prog 59 #[.pointer (some ⟨p, 0, none⟩), .int .u32 (gen : Int)] w fun e w' => e = .returned (.int .u64 (W5.following d gen : Int)) /\ Ext w w' := by
 have HD := qh h
 have hok := h.okd
 have hn1 := hok.n1
 have hn2 := hok.n2
 clear h
 have hgi : (gen : Int) < 4294967296 := by omega
 go_enter Tryz.func59, Tryz.ntmps59
 go_wp2_with fail
 refine (held_size HD.out).mono ?_
 rintro e w1 ⟨rfl, rfl⟩
 go_wp2
 go_loopw [5, 15] (fun mv iv wr => ∃ k m : Nat, (k : Int) <= d.n /\ iv = .int .i64 (k : Int) /\ mv = .int .u64 (m : Int) /\ Hid (m = W5.folTo d gen k) /\ Hid (Ext w wr)) (fun _ iv _ => d.n.toNat - (intOf iv).toNat)
 case atStart => exact ⟨0, gen, by omega, rfl, rfl, rfl, Ext.refl w⟩
 case round =>
  obtain ⟨k, m, hk, rfl, rfl, hmt, hx⟩ := hrel
  have hml : m < 4294967296 := by have := W5.folTo_lt d gen hg k; rw [<- hmt.out] at this; exact this
  by_cases hlt : (k : Int) < d.n
  ·have hst := W5.folTo_succ d gen k
   rw [<- hmt.out, tells_eq] at hst
   go_wp2_with fail
   refine (held_sec (HD.out.after_ext hx.out) hdn (k : Int) (by omega) hlt).mono ?_
   rintro e w2 ⟨b, cap, rfl, hcap1, hcap2, hb, hbs, -, hx2, hcell⟩
   have HX2 := qh (hx.out.trans hx2)
   have HB := qh hbs
   have hsl := sector_len hok (k : Int)
   clear hbs hx2 hx hb
   generalize D.sector d (k : Int) = B at *
   have htl := W5.told_lt B
   have htd : (W.get B 1 4).1 = W5.told B := rfl
   have HTD := qh htd
   clear htd
   generalize W5.told B = T at *
   generalize hxe : (B.headD 0).toNat = x at *
   have HST := qh hst
   clear hst hxe
   have hx2 : x = 1 ∨ x = 2 ∨ (x ≠ 1 /\ x ≠ 2) := by omega
   have ht := Bs.take HB.out 508 (by decide)
   unfold maxLen at hcap2
   have hcp : ¬ cap < 508 := by omega
   clear hcap1 hcap2
   rcases hx2 with rfl | rfl | ⟨n1, n2⟩
   ·have hxx : (1 = 1 ∨ (1 : Nat) = 2) := by decide
    go_wp2_with fail
    refine (sealed_any _ _ w2 ht (by rw [List.length_take]; omega)).mono ?_
    rintro e w4 ⟨v4, rfl, hown4, hx4⟩
    have HX4 := qh (HX2.out.trans hx4)
    have hq := equal_any _ v4 B _ w4 (HB.out.ext hx4) (Bs.of_own hown4)
    have hga := get_any _ B 1 4 w4 (HB.out.ext hx4) (by omega)
    have HQ := qh hq
    clear hq hown4 hx4
    have hT : (W.get B 1 4).1 = T := HTD.out
    rw [hT] at hga
    have HGA := qh hga
    clear hga hT
    go_wp2_with fail
    refine HQ.out.mono ?_
    clear HQ
    rintro e w5 ⟨rfl, rfl⟩
    by_cases h2 : B = W5.sealed (B.take 508)
    ·rw [decide_eq_true h2]
     have hs : Hid (max m T = W5.folTo d gen (k + 1)) := (HST.out.trans (if_pos (decide_eq_true ⟨hxx, h2⟩))).symm
     clear h2 HST ht
     go_wp2_with fail
     refine HGA.out.mono ?_
     clear HGA
     rintro e w6 ⟨rfl, rfl⟩
     by_cases hmT : m < T
     ·rw [Nat.max_eq_right (by omega)] at hs
      go_wp2
      go_roundw
      case rel => exact ⟨k + 1, T, by omega, by go_num, rfl, hs, HX4⟩
      case measure => (simp [intOf]; try omega)
     ·rw [Nat.max_eq_left (by omega)] at hs
      go_wp2
      go_roundw
      case rel => exact ⟨k + 1, m, by omega, by go_num, rfl, hs, HX4⟩
      case measure => (simp [intOf]; try omega)
    ·rw [decide_eq_false h2]
     have hs : Hid (m = W5.folTo d gen (k + 1)) := (HST.out.trans (if_neg (by rw [decide_eq_true_eq]; exact fun h => h2 h.2))).symm
     clear h2 HST ht HGA
     go_wp2
     go_roundw
     case rel => exact ⟨k + 1, m, by omega, by go_num, rfl, hs, HX4⟩
     case measure => (simp [intOf]; try omega)
   ·have hxx : (2 = 1 ∨ (2 : Nat) = 2) := by decide
    go_wp2_with fail
    refine (sealed_any _ _ w2 ht (by rw [List.length_take]; omega)).mono ?_
    rintro e w4 ⟨v4, rfl, hown4, hx4⟩
    have HX4 := qh (HX2.out.trans hx4)
    have hq := equal_any _ v4 B _ w4 (HB.out.ext hx4) (Bs.of_own hown4)
    have hga := get_any _ B 1 4 w4 (HB.out.ext hx4) (by omega)
    have HQ := qh hq
    clear hq hown4 hx4
    have hT : (W.get B 1 4).1 = T := HTD.out
    rw [hT] at hga
    have HGA := qh hga
    clear hga hT
    go_wp2_with fail
    refine HQ.out.mono ?_
    clear HQ
    rintro e w5 ⟨rfl, rfl⟩
    by_cases h2 : B = W5.sealed (B.take 508)
    ·rw [decide_eq_true h2]
     have hs : Hid (max m T = W5.folTo d gen (k + 1)) := (HST.out.trans (if_pos (decide_eq_true ⟨hxx, h2⟩))).symm
     clear h2 HST ht
     go_wp2_with fail
     refine HGA.out.mono ?_
     clear HGA
     rintro e w6 ⟨rfl, rfl⟩
     by_cases hmT : m < T
     ·rw [Nat.max_eq_right (by omega)] at hs
      go_wp2
      go_roundw
      case rel => exact ⟨k + 1, T, by omega, by go_num, rfl, hs, HX4⟩
      case measure => (simp [intOf]; try omega)
     ·rw [Nat.max_eq_left (by omega)] at hs
      go_wp2
      go_roundw
      case rel => exact ⟨k + 1, m, by omega, by go_num, rfl, hs, HX4⟩
      case measure => (simp [intOf]; try omega)
    ·rw [decide_eq_false h2]
     have hs : Hid (m = W5.folTo d gen (k + 1)) := (HST.out.trans (if_neg (by rw [decide_eq_true_eq]; exact fun h => h2 h.2))).symm
     clear h2 HST ht HGA
     go_wp2
     go_roundw
     case rel => exact ⟨k + 1, m, by omega, by go_num, rfl, hs, HX4⟩
     case measure => (simp [intOf]; try omega)
   ·have hs : Hid (m = W5.folTo d gen (k + 1)) := (HST.out.trans (if_neg (by rw [decide_eq_true_eq]; exact fun h => h.1.elim n1 n2))).symm
    have n3 : ((x : Int) == 1) = false := by rw [beq_eq_false_iff_ne]; omega
    have n4 : ((x : Int) == 2) = false := by rw [beq_eq_false_iff_ne]; omega
    clear HST ht n1 n2
    go_wp2
    go_roundw
    case rel => exact ⟨k + 1, m, by omega, by go_num, rfl, hs, HX2⟩
    case measure => (simp [intOf]; try omega)
  ·have HXF := qh hx.out
   have hkn : k = d.n.toNat := by omega
   have hfo : Hid (W5.following d gen = m + 1 + (if m % 2 = gen % 2 then 0 else 1)) := by unfold W5.following; rw [<- hkn, <- hmt.out]; rfl
   have HXA := qh (xor_and_one m gen hml hg)
   clear hx hmt hkn hok
   go_wp2
   go_ret
   rw [hfo.out]
   refine ⟨?_, HXF.out⟩
   rw [HXA.out]
   show Ending.returned (.int .u64 (IntKind.u64.wrap ((m : Int) + 1 + ((if m % 2 = gen % 2 then (0 : Nat) else 1 : Nat) : Int)))) = _
   congr 2
   rw [IntKind.wrap_u64]
   split <;> omega
end Go.Proofs.YtnjfioikpajhlaaGreat
