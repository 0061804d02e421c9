/- Several texts in one (RefP, RefQ). -/
import Derived.Test.YtmcmocakfhedfaaWalU
import Derived.Test.YtmcmocakfhedfaaSameT
import Derived.Test.YtmcmocakfhedfaaRefSum
/- The document's log: fill, sealed, Head, Piece, part. -/
namespace Go.Proofs.Ytmcmocakfhedfaa
open Go.RowKit

namespace W5
def fillTo (s : List UInt8) (n k : Nat) : List UInt8 := s.take k ++ List.replicate (n - k) 0
def fillL (s : List UInt8) (n : Nat) : List UInt8 := s.take n ++ List.replicate (n - s.length) 0
theorem fillTo_len (s : List UInt8) (n k : Nat) (h1 : k ≤ n) (h2 : k ≤ s.length) : (fillTo s n k).length = n := by
  unfold fillTo; rw [List.length_append, List.length_take, List.length_replicate]; omega
theorem fillTo_set (s : List UInt8) (n k : Nat) (h1 : k < n) (h2 : k < s.length) : (fillTo s n k).set k s[k] = fillTo s n (k + 1) := by
  unfold fillTo
  have h3 : (s.take k).length = k := by rw [List.length_take]; omega
  rw [List.set_append_right _ _ (by omega), h3, Nat.sub_self, List.take_succ_eq_append_getElem h2]
  have h4 : n - k = (n - (k + 1)) + 1 := by omega
  rw [h4, List.replicate_succ, List.set_cons_zero, List.append_assoc]
  rfl
theorem fillTo_all (s : List UInt8) (n : Nat) : fillTo s n (min s.length n) = fillL s n := by
  unfold fillTo fillL
  rcases Nat.le_total s.length n with h | h
  · rw [Nat.min_eq_left h, List.take_of_length_le h, List.take_of_length_le (Nat.le_refl _)]
  · rw [Nat.min_eq_right h, Nat.sub_self, Nat.sub_eq_zero_of_le h]
theorem fillL_len (s : List UInt8) (n : Nat) : (fillL s n).length = n := by
  unfold fillL; rw [List.length_append, List.length_take, List.length_replicate]; omega
end W5

set_option maxRecDepth 100000 in
set_option maxHeartbeats 1600000 in
theorem refFill (s : List UInt8) (n : Nat) (w : World) (hs : s.length ≤ 9223372036854775807) (hn : n ≤ 1000000) :
    Calls Try.prog 73 #[.string ⟨s.toArray⟩, .int .i64 (n : Int)] w fun e w' => e = .returned (strV (W5.fillL s n)) ∧ Ext w w' := by
  obtain ⟨i0, hi0, hz0, hz1, hz2⟩ := info_parts info_u8
  have hsz : (⟨s.toArray⟩ : ByteArray).size = s.length := by simp [ByteArray.size]
  have hidx : ∀ k (h : k < s.length), (⟨s.toArray⟩ : ByteArray)[k]'(by rw [hsz]; exact h) = s[k] := fun k h => by
    show s.toArray[k] = _
    simp
  generalize hSS : (⟨s.toArray⟩ : ByteArray) = SS at *
  have HSS := Lib.hid hSS
  have hni : (n : Int) ≤ 1000000 := by omega
  have hsi : (s.length : Int) ≤ 9223372036854775807 := by omega
  have HIX := Lib.hid hidx
  clear hidx hSS
  go_enter Try.func73, Try.ntmps73
  go_wp2_with (first | (at_make; refine wpl_make _ rfl _ _ 31 rfl w.heap.size 5 i0 (.int .u8 0) Try.underlying31 hi0 hz0 hz1 rfl .i64 .i64 (n : Int) (n : Int) n n rfl rfl rfl rfl (Nat.le_refl _) (by rw [hz2]; omega) (by unfold maxLen; omega) (Nat.le_refl _) ?_; intro w1 hown hx hg) | fail)
  have hown1 : w1.ownsRow w.heap.size 5 1 (.slice (some ⟨w.heap.size, 0, none⟩) n n) n ((W5.fillTo s n 0).map byteVal) := by
    have e : (W5.fillTo s n 0).map byteVal = List.replicate n (.int .u8 0) := by unfold W5.fillTo; rw [List.take_zero, List.nil_append, Nat.sub_zero, List.map_replicate]; rfl
    rw [e]; exact hown
  have HO := Lib.hid hown1
  have HX := Lib.hid hx
  clear hown1 hown hx hg
  go_wp2
  go_loopw [6] (fun iv wr => ∃ k : Nat, k ≤ n ∧ k ≤ s.length ∧ iv = .int .i64 (k : Int) ∧ wr.ownsRow w.heap.size 5 1 (.slice (some ⟨w.heap.size, 0, none⟩) n n) n ((W5.fillTo s n k).map byteVal) ∧ Ext w wr) (fun iv _ => n - (intOf iv).toNat)
  case atStart => exact ⟨0, by omega, by omega, rfl, HO.out, HX.out⟩
  case round =>
    clear HO HX
    obtain ⟨k, hk1, hk2, rfl, hown, hx⟩ := hrel
    by_cases hlt : k < s.length ∧ k < n
    · obtain ⟨l1, l2⟩ := hlt
      have l1i : (k : Int) < (s.length : Int) := by omega
      have l2i : (k : Int) < (n : Int) := by omega
      have l3 : k < SS.size := by rw [hsz]; exact l1
      have hget : SS[k] = s[k] := HIX.out k l1
      have hkl : k < (W5.fillTo s n k).length := by rw [W5.fillTo_len _ _ _ hk1 hk2]; exact l2
      have hcell := hown.cellAt k (by rw [Nat.mul_one]; exact l2)
      rw [List.getElem?_map, List.getElem?_eq_getElem hkl] at hcell
      simp only [Option.map_some] at hcell
      have hfro := hown.frozenAt k
      have hst := (hown.stored k (byteVal s[k])).1
      rw [← List.map_set, W5.fillTo_set _ _ _ l2 l1] at hst
      have hx' := hx.setCell (p := ⟨w.heap.size, k, none⟩) (Nat.le_refl _) (byteVal s[k])
      unfold byteVal at hst hx'
      rw [← hget] at hst hx'
      have HST := Lib.hid hst
      have HXS := Lib.hid hx'
      clear hst hx' hown hx hget
      generalize byteVal (W5.fillTo s n k)[k] = u0 at *
      clear hkl
      go_wp2
      go_roundw
      case rel => exact ⟨k + 1, by omega, by omega, by go_num, HST.out, HXS.out⟩
      case measure => (simp [intOf]; try omega)
    · have hkm : k = min s.length n := by omega
      rw [hkm, W5.fillTo_all] at hown
      have cv := (Bs.of_own hown).toString (P := Try.prog) 31 9 5 Try.underlying31 Try.underlying5 Try.underlying9
      have HXF := Lib.hid hx
      clear hown hx
      by_cases l1 : k < s.length
      · obtain rfl : k = n := by omega
        have l1i : (k : Int) < (s.length : Int) := by omega
        clear hkm hlt
        go_wp2
        go_ret
        exact ⟨rfl, HXF.out⟩
      · obtain rfl : k = s.length := by omega
        clear hkm hlt
        go_wp2
        go_ret
        exact ⟨rfl, HXF.out⟩
end Go.Proofs.Ytmcmocakfhedfaa

/- The document's log: sealed, Head, Piece. -/
namespace Go.Proofs.Ytmcmocakfhedfaa
open Go.RowKit

theorem refSum_s (l : List UInt8) (w : World) (hl : l.length ≤ 9223372036854775807) :
    Calls Try.prog 83 #[.string ⟨l.toArray⟩] w fun e w' => e = .returned (.int .u32 (S.sum l : Int)) ∧ w = w' := by
  have h := refSum ⟨l.toArray⟩ w (by simpa [ByteArray.size] using hl)
  simpa using h
theorem refGet_s (l : List UInt8) (at_ size : Int) (w : World) (hl : l.length ≤ 9223372036854775807) (hat : at_ ≤ 9223372036854775807) :
    Calls Try.prog 84 #[.string ⟨l.toArray⟩, .int .i64 at_, .int .i64 size] w fun e w' => e = .returned (.tuple #[.int .u64 ((W.get l at_ size).1 : Int), .int .i64 ((W.get l at_ size).2 : Int)]) ∧ w = w' := by
  have h := refGet ⟨l.toArray⟩ at_ size w (by simpa [ByteArray.size] using hl) hat
  simpa using h

namespace W5
theorem fill_sealed (s : List UInt8) (h : s.length ≤ 508) : fillL s 508 ++ W.be 4 (S.sum (fillL s 508)) = sealed s := by
  unfold fillL sealed
  rw [List.take_of_length_le h]
/-- A sealed text, whatever its length. -/
def sealedT (s : List UInt8) : List UInt8 := fillL s 508 ++ W.be 4 (S.sum (fillL s 508))
theorem sealedT_eq (s : List UInt8) (h : s.length ≤ 508) : sealedT s = sealed s := fill_sealed s h
def pieceT (gen record i pieces size : Nat) (body : List UInt8) : List UInt8 := sealedT ((((([2] ++ W.be 4 gen) ++ W.be 4 record) ++ W.be 2 i) ++ W.be 2 pieces) ++ W.be 4 size ++ fillL body 491)
theorem be_mod (k : Nat) : ∀ n, W.be k (n % 256 ^ k) = W.be k n := by
  induction k with
  | zero => intro n; rfl
  | succ k ih =>
    intro n
    rw [W.be_snoc, W.be_snoc]
    have e1 : n % 256 ^ (k + 1) / 256 = n / 256 % 256 ^ k := by
      rw [Nat.pow_succ, Nat.mul_comm, Nat.mod_mul_right_div_self]
    have e2 : UInt8.ofNat (n % 256 ^ (k + 1)) = UInt8.ofNat n := by
      apply UInt8.toNat_inj.1
      have : n % 256 ^ (k + 1) % 256 = n % 256 := Nat.mod_mod_of_dvd _ ⟨256 ^ k, by rw [Nat.pow_succ, Nat.mul_comm]⟩
      simpa using this
    rw [e1, ih, e2]
theorem div32 (a r : Nat) (h : r < 4294967296) : (a * 4294967296 + r) / 4294967296 = a := by omega
theorem mod32 (a r : Nat) : (a * 4294967296 + r % 4294967296) % 4294967296 = r % 4294967296 := by omega
theorem div32b (i N l : Nat) : (i % 65536 * 281474976710656 + N % 65536 * 4294967296 + l % 4294967296) / 4294967296 = i % 65536 * 65536 + N % 65536 := by omega
theorem mod32b (i N l : Nat) : (i % 65536 * 281474976710656 + N % 65536 * 4294967296 + l % 4294967296) % 4294967296 = l % 4294967296 := by omega
theorem div16 (i N : Nat) : (i % 65536 * 65536 + N % 65536) / 65536 = i % 65536 := by omega
theorem mod16 (i N : Nat) : (i % 65536 * 65536 + N % 65536) % 65536 = N % 65536 := by omega
theorem p4 : (256 : Nat) ^ 4 = 4294967296 := by decide
theorem p2 : (256 : Nat) ^ 2 = 65536 := by decide
theorem be4_mod (n m : Nat) (h : n % 4294967296 = m % 4294967296) : W.be 4 n = W.be 4 m := by
  have h1 := be_mod 4 n
  have h2 := be_mod 4 m
  rw [p4] at h1 h2
  rw [← h1, ← h2, h]
/-- The document's piece is the program's. -/
theorem pieceT_eq (gen record i : Nat) (b : List UInt8) (hg : gen < 4294967296) : pieceT gen record i (need b.length) b.length ((b.drop (i * 491)).take 491) = piece gen record i b := by
  have hl : ((((([2] ++ W.be 4 gen) ++ W.be 4 record) ++ W.be 2 i) ++ W.be 2 (need b.length)) ++ W.be 4 b.length ++ fillL ((b.drop (i * 491)).take 491) 491).length = 508 := by
    simp only [List.length_append, W.be_length, fillL_len, List.length_singleton]
  unfold pieceT piece
  rw [sealedT_eq _ (Nat.le_of_eq hl), sealed_full _ hl]
  have hb := pieceB_len gen record i b
  unfold sealed
  have e : (((((([2] ++ W.be 4 gen) ++ W.be 4 record) ++ W.be 2 i) ++ W.be 2 (need b.length)) ++ W.be 4 b.length ++ fillL ((b.drop (i * 491)).take 491) 491)) = pieceB gen record i b ++ List.replicate (508 - (pieceB gen record i b).length) 0 := by
    have h1 : W.be 8 (gen * 4294967296 + record % 4294967296) = W.be 4 gen ++ W.be 4 record := by
      rw [W.be_add 4 4]
      have a1 : (gen * 4294967296 + record % 4294967296) / 256 ^ 4 = gen := by rw [p4]; exact div32 _ _ (Nat.mod_lt _ (by decide))
      rw [a1, be4_mod _ _ (mod32 gen record)]
    have h2 : W.be 8 (i % 65536 * 281474976710656 + need b.length % 65536 * 4294967296 + b.length % 4294967296) = W.be 2 i ++ W.be 2 (need b.length) ++ W.be 4 b.length := by
      generalize need b.length = N
      generalize b.length = l
      rw [W.be_add 4 4, W.be_add 2 2]
      have a1 : (i % 65536 * 281474976710656 + N % 65536 * 4294967296 + l % 4294967296) / 256 ^ 4 = i % 65536 * 65536 + N % 65536 := by rw [p4]; exact div32b _ _ _
      have a2 : (i % 65536 * 65536 + N % 65536) / 256 ^ 2 = i % 65536 := by rw [p2]; exact div16 _ _
      rw [a1, a2]
      have b1 : W.be 2 (i % 65536) = W.be 2 i := by rw [← p2]; exact be_mod 2 i
      have b2 : W.be 2 (i % 65536 * 65536 + N % 65536) = W.be 2 N := by
        have e1 := be_mod 2 (i % 65536 * 65536 + N % 65536)
        have e2 := be_mod 2 N
        rw [p2] at e1 e2
        have e3 : (i % 65536 * 65536 + N % 65536) % 65536 = N % 65536 := mod16 _ _
        rw [← e1, e3, e2]
      have b3 := be4_mod _ _ (mod32b i N l)
      rw [b1, b2, b3]
    have hc : ((b.drop (i * 491)).take 491).length ≤ 491 := by rw [List.length_take]; omega
    have hlen : (pieceB gen record i b).length = 17 + ((b.drop (i * 491)).take 491).length := by
      unfold pieceB
      simp only [List.length_append, List.length_cons, W.be_length]
    rw [hlen]
    unfold pieceB fillL
    rw [h1, h2, List.take_of_length_le hc]
    have hr : 508 - (17 + ((b.drop (i * 491)).take 491).length) = 491 - ((b.drop (i * 491)).take 491).length := by omega
    rw [hr]
    simp only [List.append_assoc, List.cons_append, List.nil_append]
  rw [e]
end W5

set_option maxRecDepth 100000 in
set_option maxHeartbeats 800000 in
theorem refSealed (s : List UInt8) (w : World) (hs : s.length ≤ 1000000) :
    Calls Try.prog 71 #[.string ⟨s.toArray⟩] w fun e w' => e = .returned (strV (W5.sealedT s)) ∧ Ext w w' := by
  have hf := refFill s 508 w (by omega) (by decide)
  have hfl := W5.fillL_len s 508
  have HF := Lib.hid hf
  have hun : strV (W5.sealedT s) = .string ⟨(W5.fillL s 508 ++ W.be (W.sz 4) (S.sum (W5.fillL s 508))).toArray⟩ := rfl
  have HUN := Lib.hid hun
  clear hf hun
  go_enter Try.func71, Try.ntmps71
  go_wp2_with fail
  refine HF.out.mono ?_
  clear HF
  rintro e w1 ⟨rfl, hx1⟩
  have HX1 := Lib.hid hx1
  clear hx1
  unfold strV
  generalize W5.fillL s 508 = X at *
  go_wp2_with fail
  refine (refSum_s X w1 (by omega)).mono ?_
  rintro e w2 ⟨rfl, rfl⟩
  have hsl := sum_lt X
  generalize hne : S.sum X = n at *
  have HNE := Lib.hid hne
  clear hne
  have hni : (n : Int) < 4294967296 := by omega
  go_wp2_with fail
  refine (refPut X n 4 w1 (by omega) (by omega) (by decide) (by decide)).mono ?_
  rintro e w2 ⟨rfl, hx2⟩
  have HX2 := Lib.hid (HX1.out.trans hx2)
  clear hx2
  go_wp2
  go_ret
  rw [HUN.out]
  exact ⟨rfl, HX2.out⟩
set_option maxRecDepth 100000 in
set_option maxHeartbeats 800000 in
theorem refHead (g : Nat) (w : World) (hg : g < 4294967296) :
    Calls Try.prog 50 #[.int .u32 (g : Int)] w fun e w' => e = .returned (strV (W5.head g)) ∧ Ext w w' := by
  have hgi : (g : Int) < 4294967296 := by omega
  have hun : W5.head g = W5.sealedT ([1] ++ W.be (W.sz 4) g) := by
    rw [W5.sealedT_eq _ (by rw [List.length_append, W.be_length]; decide)]; rfl
  have HUN := Lib.hid hun
  have hlen : ([1] ++ W.be (W.sz 4) g).length ≤ 1000000 := by rw [List.length_append, W.be_length]; decide
  clear hun
  go_enter Try.func50, Try.ntmps50
  go_wp2_with fail
  refine (refPut [1] g 4 w (by omega) (by decide) (by decide) (by decide)).mono ?_
  rintro e w1 ⟨rfl, hx1⟩
  have HX1 := Lib.hid hx1
  clear hx1
  generalize [1] ++ W.be (W.sz 4) g = X at *
  go_wp2_with fail
  refine (refSealed X w1 hlen).mono ?_
  rintro e w2 ⟨rfl, hx2⟩
  have HX2 := Lib.hid (HX1.out.trans hx2)
  clear hx2
  go_wp2
  go_ret
  rw [HUN.out]
  exact ⟨rfl, HX2.out⟩
set_option maxRecDepth 100000 in
set_option maxHeartbeats 1600000 in
theorem refPiece (g record i pieces size : Nat) (body : List UInt8) (w : World) (hg : g < 4294967296) (hr : record < 18446744073709551616) (hi : i < 18446744073709551616) (hp : pieces < 18446744073709551616) (hz : size < 18446744073709551616) (hb : body.length ≤ 1000000) :
    Calls Try.prog 51 #[.int .u32 (g : Int), .int .u64 (record : Int), .int .u64 (i : Int), .int .u64 (pieces : Int), .int .u64 (size : Int), .string ⟨body.toArray⟩] w fun e w' => e = .returned (strV (W5.pieceT g record i pieces size body)) ∧ Ext w w' := by
  have hgi : (g : Int) < 4294967296 := by omega
  have hf := fun w => refFill body 491 w (by omega) (by decide)
  have HF := Lib.hid hf
  have HUN := Lib.hid (show W5.pieceT g record i pieces size body = W5.sealedT ((((([2] ++ W.be (W.sz 4) g) ++ W.be (W.sz 4) record) ++ W.be (W.sz 2) i) ++ W.be (W.sz 2) pieces) ++ W.be (W.sz 4) size ++ W5.fillL body 491) from rfl)
  have l1 : ([2] ++ W.be (W.sz 4) g).length = 5 := by rw [List.length_append, W.be_length]; rfl
  clear hf
  go_enter Try.func51, Try.ntmps51
  go_wp2_with fail
  refine (refPut [2] g 4 w (by omega) (by decide) (by decide) (by decide)).mono ?_
  rintro e w1 ⟨rfl, hx1⟩
  have HX1 := Lib.hid hx1
  clear hx1
  generalize [2] ++ W.be (W.sz 4) g = X1 at *
  go_wp2_with fail
  refine (refPut X1 record 4 w1 hr (by omega) (by decide) (by decide)).mono ?_
  rintro e w2 ⟨rfl, hx2⟩
  have l2 : (X1 ++ W.be (W.sz 4) record).length = 9 := by rw [List.length_append, W.be_length, l1]; rfl
  have HX2 := Lib.hid (HX1.out.trans hx2)
  clear hx2 HX1
  generalize X1 ++ W.be (W.sz 4) record = X2 at *
  go_wp2_with fail
  refine (refPut X2 i 2 w2 hi (by omega) (by decide) (by decide)).mono ?_
  rintro e w3 ⟨rfl, hx3⟩
  have l3 : (X2 ++ W.be (W.sz 2) i).length = 11 := by rw [List.length_append, W.be_length, l2]; rfl
  have HX3 := Lib.hid (HX2.out.trans hx3)
  clear hx3 HX2
  generalize X2 ++ W.be (W.sz 2) i = X3 at *
  go_wp2_with fail
  refine (refPut X3 pieces 2 w3 hp (by omega) (by decide) (by decide)).mono ?_
  rintro e w4 ⟨rfl, hx4⟩
  have l4 : (X3 ++ W.be (W.sz 2) pieces).length = 13 := by rw [List.length_append, W.be_length, l3]; rfl
  have HX4 := Lib.hid (HX3.out.trans hx4)
  clear hx4 HX3
  generalize X3 ++ W.be (W.sz 2) pieces = X4 at *
  go_wp2_with fail
  refine (refPut X4 size 4 w4 hz (by omega) (by decide) (by decide)).mono ?_
  rintro e w5 ⟨rfl, hx5⟩
  have l5 : (X4 ++ W.be (W.sz 4) size).length = 17 := by rw [List.length_append, W.be_length, l4]; rfl
  have HX5 := Lib.hid (HX4.out.trans hx5)
  clear hx5 HX4
  generalize X4 ++ W.be (W.sz 4) size = X5 at *
  go_wp2_with fail
  refine (HF.out w5).mono ?_
  rintro e w6 ⟨rfl, hx6⟩
  have l6 := W5.fillL_len body 491
  have HX6 := Lib.hid (HX5.out.trans hx6)
  clear hx6 HX5
  unfold strV
  generalize W5.fillL body 491 = X6 at *
  have hadd := ba_append X5 X6
  have l7 : (X5 ++ X6).length ≤ 1000000 := by rw [List.length_append, l5, l6]; decide
  have hsz : ((⟨(X5 ++ X6).toArray⟩ : ByteArray)).size = 508 := by simp only [ByteArray.size, List.size_toArray, List.length_append, l5, l6]
  go_wp2_with fail
  refine (refSealed (X5 ++ X6) w6 l7).mono ?_
  rintro e w7 ⟨rfl, hx7⟩
  have HX7 := Lib.hid (HX6.out.trans hx7)
  clear hx7
  go_wp2
  go_ret
  rw [HUN.out]
  exact ⟨rfl, HX7.out⟩
end Go.Proofs.Ytmcmocakfhedfaa
