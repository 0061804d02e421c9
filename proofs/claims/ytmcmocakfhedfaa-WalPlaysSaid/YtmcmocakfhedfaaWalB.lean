/- wal.piece. -/
import Derived.Test.YtmcmocakfhedfaaWalA
namespace Go.Proofs.Ytmcmocakfhedfaa
open Go.RowKit

theorem or_nat (m y j P : Nat) (hP : 2 ^ j = P) (hm : m < P) (hy : y * P + m < 18446744073709551616) : bits BinOp.or IntKind.u64 ((y * P : Nat) : Int) (m : Int) = ((y * P + m : Nat) : Int) := by
  subst hP
  rw [bits_or_u64_nat _ _ (by omega) (by omega)]
  congr 1
  rw [Nat.or_comm, W.add_mul_or m y j hm, Nat.add_comm]
theorem need_17 (n : Nat) (h : n ≤ 8192) : W5.need n ≤ 17 := by unfold W5.need; split <;> omega
theorem need_lt (i n : Nat) (h : i < W5.need n) : n = 0 ∨ i * 491 < n := by unfold W5.need at h; split at h <;> omega
theorem or_three (i N L : Nat) (hi : i ≤ 100) (hN : N ≤ 17) (hL : L ≤ 8192) :
    ((i * 281474976710656 + N * 4294967296 + L : Nat) : Int) = (i : Int) * 281474976710656 + (N : Int) * 4294967296 + (L : Int) ∧
    bits BinOp.or IntKind.u64 ((i : Int) * 281474976710656) ((N : Int) * 4294967296) = (i : Int) * 281474976710656 + (N : Int) * 4294967296 ∧
    bits BinOp.or IntKind.u64 ((i : Int) * 281474976710656 + (N : Int) * 4294967296) (L : Int) = (i : Int) * 281474976710656 + (N : Int) * 4294967296 + (L : Int) := by
  have e1 : ((i * 281474976710656 : Nat) : Int) = (i : Int) * 281474976710656 := by simp
  have e2 : ((N * 4294967296 : Nat) : Int) = (N : Int) * 4294967296 := by simp
  have e3 : ((i * 281474976710656 + N * 4294967296 : Nat) : Int) = (i : Int) * 281474976710656 + (N : Int) * 4294967296 := by simp
  have e7 : (i * 65536 + N) * 4294967296 = i * 281474976710656 + N * 4294967296 := by rw [Nat.add_mul, Nat.mul_assoc]
  have e4 : (((i * 65536 + N) * 4294967296 : Nat) : Int) = (i : Int) * 281474976710656 + (N : Int) * 4294967296 := by rw [e7]; exact e3
  have e5 : (((i * 65536 + N) * 4294967296 + L : Nat) : Int) = (i : Int) * 281474976710656 + (N : Int) * 4294967296 + (L : Int) := by rw [Int.natCast_add, e4]
  have e6 : ((i * 281474976710656 + N * 4294967296 + L : Nat) : Int) = (i : Int) * 281474976710656 + (N : Int) * 4294967296 + (L : Int) := by rw [Int.natCast_add, e3]
  have h1 := or_nat (N * 4294967296) i 48 281474976710656 rfl (by omega) (by omega)
  have h2 := or_nat L (i * 65536 + N) 32 4294967296 rfl (by omega) (by omega)
  rw [e1, e2, e3] at h1
  rw [e4, e5] at h2
  exact ⟨e6, h1, h2⟩
theorem or_two (gen record : Nat) (hg : gen < 4294967296) (hr : record < 4294967296) : ((gen * 4294967296 + record : Nat) : Int) = (gen : Int) * 4294967296 + (record : Int) ∧
    bits BinOp.or IntKind.u64 ((gen : Int) * 4294967296) (record : Int) = (gen : Int) * 4294967296 + (record : Int) := by
  have e1 : ((gen * 4294967296 : Nat) : Int) = (gen : Int) * 4294967296 := by simp
  have e2 : ((gen * 4294967296 + record : Nat) : Int) = (gen : Int) * 4294967296 + (record : Int) := by rw [Int.natCast_add, e1]
  have h1 := or_nat record gen 32 4294967296 rfl (by omega) (by omega)
  rw [e1, e2] at h1
  exact ⟨e2, h1⟩
theorem pieceB_eq (gen record i : Nat) (b : List UInt8) (hr : record < 4294967296) (hi : i ≤ 100) (hbl : b.length ≤ 8192) :
    W5.pieceB gen record i b = (2 :: W.be 8 (gen * 4294967296 + record)) ++ W.be 8 (i * 281474976710656 + W5.need b.length * 4294967296 + b.length) ++ (b.drop (i * 491)).take 491 := by
  have h1 := need_17 _ hbl
  unfold W5.pieceB
  rw [Nat.mod_eq_of_lt hr, Nat.mod_eq_of_lt (Nat.lt_of_le_of_lt hi (by decide)), Nat.mod_eq_of_lt (Nat.lt_of_le_of_lt h1 (by decide)), Nat.mod_eq_of_lt (Nat.lt_of_le_of_lt hbl (by decide))]
/-- A piece of a row that reads. -/
theorem Bs.sub {w : World} {b off len cap : Nat} {l : List UInt8} (h : Bs w (.slice (some ⟨b, off, none⟩) len cap) l) (k m : Nat) (hk : k + m ≤ len) : Bs w (.slice (some ⟨b, off + k, none⟩) m (cap - k)) ((l.drop k).take m) := by
  obtain ⟨a', cap', hv, h1, h2, hn, h3, h4⟩ := h
  rw [List.length_map] at hv h1
  obtain ⟨rfl, rfl, rfl⟩ := Value.slice.inj hv
  have hlen : ((l.drop k).take m).length = m := by rw [List.length_take, List.length_drop]; omega
  refine ⟨some ⟨b, off + k, none⟩, cap - k, by rw [List.length_map, hlen], by rw [List.length_map, hlen]; omega, by omega, by simp, bytes_one _, ?_⟩
  rcases h4 with h4 | ⟨b', off', hb, hc⟩
  · left
    have : l = [] := by simpa using h4
    subst this; simp
  · right
    obtain ⟨rfl, rfl, _⟩ := Addr.mk.inj (Option.some.inj hb)
    refine ⟨b, off + k, rfl, fun j u hj => ?_⟩
    have hj' := (List.getElem?_eq_some_iff.1 hj).1
    rw [List.length_map, hlen] at hj'
    rw [List.map_take, List.getElem?_take, if_pos hj', List.map_drop, List.getElem?_drop] at hj
    have h5 := hc (k + j) u hj
    rw [← Nat.add_assoc] at h5
    exact h5

set_option maxRecDepth 100000 in
set_option maxHeartbeats 1600000 in
theorem piece_any (gen record i : Nat) (v : Value) (b : List UInt8) (w : World) (hg : gen < 4294967296) (hr : record < 4294967296) (hi : i ≤ 100) (h : Bs w v b) (hbl : b.length ≤ 8192) (hib : i < W5.need b.length) :
    Calls Try.prog 66 #[.int .u32 (gen : Int), .int .i64 (record : Int), .int .i64 (i : Int), v] w fun e w' => MadeB w w' (W5.piece gen record i b) e := by
  have H := Lib.hid h
  obtain ⟨a, cap, rfl⟩ := h.shape
  clear h
  unfold MadeB W5.piece
  have hb0 := Bs.lit w [2] 5 (by simp [maxLen])
  have hx0 := Ext.of_alloc w (.cells ([2].map byteVal).toArray 5)
  have hgi : (gen : Int) < 4294967296 := by omega
  have hri : (record : Int) < 4294967296 := by omega
  have hii : (i : Int) ≤ 100 := by omega
  have hbi : (b.length : Int) ≤ 8192 := by omega
  have hs8 : W.sz 8 = 8 := by decide
  obtain ⟨ec1, hor1⟩ := or_two gen record hg hr
  have hnd : W5.need b.length ≤ 17 := need_17 _ hbl
  have hil := need_lt i b.length hib
  have hil2 := hib
  have HI0 := Lib.hid (show b.length = 0 → i = 0 from fun h => by
    rw [h] at hib
    have h1 : W5.need 0 = 1 := rfl
    omega)
  obtain ⟨ec3, hor2, hor3⟩ := or_three i (W5.need b.length) b.length hi hnd hbl
  have hndi : (W5.need b.length : Int) ≤ 17 := by omega
  have hnn := W5.need_nat b.length
  have hpb := pieceB_eq gen record i b hr hi hbl
  have HPB := Lib.hid hpb
  clear hpb
  go_enter Try.func66, Try.ntmps66
  go_wp2_with fail
  rw [← ec1]
  refine (put_any _ [2] (gen * 4294967296 + record) 8 _ (by omega) hb0 (by simp) (by omega) (by omega)).mono ?_
  rintro e w2 ⟨v2, rfl, hown2, hx2⟩
  rw [hs8] at hown2
  have HO2 := Lib.hid hown2
  have HX2 := Lib.hid (hx0.trans hx2)
  clear hown2 hx2 hx0 hb0 hor1 ec1
  go_wp2_with fail
  refine (need_any (b.length : Int) w2 (by omega) (by omega)).mono ?_
  rintro e w3 ⟨rfl, rfl⟩
  rw [hnn]
  generalize W5.need b.length = N at *
  go_wp2_with fail
  rw [← ec3]
  refine (put_any v2 _ (i * 281474976710656 + N * 4294967296 + b.length) 8 w2 (by omega) (Bs.of_own HO2.out) (by rw [List.length_append, W.be_length]; simp) (by omega) (by omega)).mono ?_
  rintro e w3 ⟨v3, rfl, hown3, hx3⟩
  rw [hs8] at hown3
  have HX3 := Lib.hid (HX2.out.trans hx3)
  have HO3 := Lib.hid (ownsRow_base5 hown3 HX2.out.size)
  have hbw := Lib.hid (H.out.ext HX3.out)
  clear hown3 hx3 HX2 HO2 hor2 hor3 ec3
  by_cases hbe : b.length = 0
  · obtain rfl : b = [] := List.eq_nil_of_length_eq_zero hbe
    obtain rfl : i = 0 := HI0.out rfl
    have hsub0 := hbw.out
    clear hnn hndi hs8 hgi hri
    cases a with
    | none =>
      have hsub : Hid (Bs w3 (.slice none 0 cap) ((([] : List UInt8).drop (0 * 491)).take 491)) := hsub0
      go_wp2_with (first
        | (at_builtin; refine wpl_append_b _ rfl _ _ rfl w.heap.size v3 _ (by rfl) HO3.out _ _ (by rfl) hsub.out _ HPB.out.symm (by have := W5.pieceB_len gen record 0 []; omega) HX3.out.size ?_; intro v4 w4 hown4 hgrow4)
        | fail)
      have hx4 : Ext w w4 := HX3.out.grown hgrow4 (fun k hk => (HO3.out.lt k hk).1)
      have HX4 := Lib.hid hx4
      have HO4 := Lib.hid hown4
      clear hx4 hown4 hgrow4 hsub HX3 HO3
      refine (sealed_any v4 _ w4 (Bs.of_own HO4.out) (W5.pieceB_len gen record 0 [])).mono ?_
      rintro e w5 ⟨v5, rfl, hown5, hx5⟩
      have HX5 := Lib.hid (HX4.out.trans hx5)
      have HO5 := Lib.hid (ownsRow_base5 hown5 HX4.out.size)
      clear hown5 hx5 HX4 HO4
      go_wp2
      go_ret
      exact ⟨_, rfl, HO5.out, HX5.out⟩
    | some ad =>
      have hsub : Hid (Bs w3 (.slice (some ad) 0 cap) ((([] : List UInt8).drop (0 * 491)).take 491)) := hsub0
      go_wp2_with (first
        | (at_builtin; refine wpl_append_b _ rfl _ _ rfl w.heap.size v3 _ (by rfl) HO3.out _ _ (by rfl) hsub.out _ HPB.out.symm (by have := W5.pieceB_len gen record 0 []; omega) HX3.out.size ?_; intro v4 w4 hown4 hgrow4)
        | fail)
      have hx4 : Ext w w4 := HX3.out.grown hgrow4 (fun k hk => (HO3.out.lt k hk).1)
      have HX4 := Lib.hid hx4
      have HO4 := Lib.hid hown4
      clear hx4 hown4 hgrow4 hsub HX3 HO3
      refine (sealed_any v4 _ w4 (Bs.of_own HO4.out) (W5.pieceB_len gen record 0 [])).mono ?_
      rintro e w5 ⟨v5, rfl, hown5, hx5⟩
      have HX5 := Lib.hid (HX4.out.trans hx5)
      have HO5 := Lib.hid (ownsRow_base5 hown5 HX4.out.size)
      clear hown5 hx5 HX4 HO4
      go_wp2
      go_ret
      exact ⟨_, rfl, HO5.out, HX5.out⟩
  · rcases hbw.out.open with ⟨_, _, _, h0, _⟩ | ⟨bb, off, cap', he, hp, hcap, hcm, _, hcc⟩
    · exact absurd (by rw [h0]; rfl) hbe
    · obtain ⟨rfl, _, rfl⟩ := Value.slice.inj he
      have hil2 : i * 491 < b.length := by omega
      have hcp1 : ¬ cap ≤ i * 491 := by omega
      have hcp2 : ¬ cap - i * 491 = 0 := by omega
      have hcp3 : ¬ i * 491 = cap := by omega
      have hcp4 : ¬ cap = i * 491 := by omega
      have hm1 : (i : Int) * 491 ≤ (b.length : Int) := by omega
      have hc1 : (b.length : Int) ≤ (cap : Int) := by omega
      clear hcc hnn hndi hs8 hgi hri
      by_cases hge : ((i : Int) + 1) * 491 < (b.length : Int)
      · have hsub : Hid (Bs w3 (.slice (some ⟨bb, off + i * 491, none⟩) (((((i : Int) + 1) * 491).toNat) - i * 491) (cap - i * 491)) ((b.drop (i * 491)).take 491)) := by
          have e : ((((i : Int) + 1) * 491).toNat) - i * 491 = 491 := by omega
          rw [e]
          exact hbw.out.sub (i * 491) 491 (by omega)
        go_wp2_with (first
          | (at_builtin; refine wpl_append_b _ rfl _ _ rfl w.heap.size v3 _ (by rfl) HO3.out _ _ (by rfl) hsub.out _ HPB.out.symm (by have := W5.pieceB_len gen record i b; omega) HX3.out.size ?_; intro v4 w4 hown4 hgrow4)
          | fail)
        have hx4 : Ext w w4 := HX3.out.grown hgrow4 (fun k hk => (HO3.out.lt k hk).1)
        have HX4 := Lib.hid hx4
        have HO4 := Lib.hid hown4
        clear hx4 hown4 hgrow4 hsub HX3 HO3
        refine (sealed_any v4 _ w4 (Bs.of_own HO4.out) (W5.pieceB_len gen record i b)).mono ?_
        rintro e w5 ⟨v5, rfl, hown5, hx5⟩
        have HX5 := Lib.hid (HX4.out.trans hx5)
        have HO5 := Lib.hid (ownsRow_base5 hown5 HX4.out.size)
        clear hown5 hx5 HX4 HO4
        go_wp2
        go_ret
        exact ⟨_, rfl, HO5.out, HX5.out⟩
      · have hge2 : (b.length : Int) ≤ ((i : Int) + 1) * 491 := by omega
        have hsub : Hid (Bs w3 (.slice (some ⟨bb, off + i * 491, none⟩) (b.length - i * 491) (cap - i * 491)) ((b.drop (i * 491)).take 491)) := by
          have e : (b.drop (i * 491)).take 491 = (b.drop (i * 491)).take (b.length - i * 491) := by
            rw [List.take_of_length_le (by rw [List.length_drop]; omega), List.take_of_length_le (by rw [List.length_drop]; omega)]
          rw [e]
          exact hbw.out.sub (i * 491) (b.length - i * 491) (by omega)
        go_wp2_with (first
          | (at_builtin; refine wpl_append_b _ rfl _ _ rfl w.heap.size v3 _ (by rfl) HO3.out _ _ (by rfl) hsub.out _ HPB.out.symm (by have := W5.pieceB_len gen record i b; omega) HX3.out.size ?_; intro v4 w4 hown4 hgrow4)
          | fail)
        have hx4 : Ext w w4 := HX3.out.grown hgrow4 (fun k hk => (HO3.out.lt k hk).1)
        have HX4 := Lib.hid hx4
        have HO4 := Lib.hid hown4
        clear hx4 hown4 hgrow4 hsub HX3 HO3
        refine (sealed_any v4 _ w4 (Bs.of_own HO4.out) (W5.pieceB_len gen record i b)).mono ?_
        rintro e w5 ⟨v5, rfl, hown5, hx5⟩
        have HX5 := Lib.hid (HX4.out.trans hx5)
        have HO5 := Lib.hid (ownsRow_base5 hown5 HX4.out.size)
        clear hown5 hx5 HX4 HO4
        go_wp2
        go_ret
        exact ⟨_, rfl, HO5.out, HX5.out⟩
end Go.Proofs.Ytmcmocakfhedfaa
