/- MRef4: RefSum RefP Ref5a Ref5b Ref5c Rel5. -/
import Derived.Test.YtnjfioikpajhlaaGreatProg
import Derived.Test.YtnjfioikpajhlaaGreatMPlain
import Derived.Test.YtnjfioikpajhlaaGreatMBase
import Derived.Test.YtnjfioikpajhlaaGreatMWord
import Derived.Test.YtnjfioikpajhlaaGreatWalU
import Derived.Test.YtnjfioikpajhlaaGreatMRec
import Derived.Test.YtnjfioikpajhlaaGreatMDisk
import Derived.Test.YtnjfioikpajhlaaGreatMDisk
set_option maxRecDepth 100000
set_option maxHeartbeats 64000000
namespace Go.Proofs.YtnjfioikpajhlaaGreat
open Go.RowKit
theorem S.rst_test (x q : Nat) (f : BitVec 32) : (((x : Int) / 2 ^ q).tmod 2 != (f.toNat : Int) % 2) = ((x / 2 ^ q % 2 == 1) != f.getLsbD 0) := by
 have e1 : ((x : Int) / 2 ^ q) = ((x / 2 ^ q : Nat) : Int) := by simp
 have e2 : (((x / 2 ^ q : Nat) : Int).tmod 2) = ((x / 2 ^ q % 2 : Nat) : Int) := by
  generalize x / 2 ^ q = y
  rw [Int.tmod_eq_emod_of_nonneg (by omega)]; omega
 rw [e1, e2, BitVec.getLsbD, Nat.testBit_zero]
 have h1 : x / 2 ^ q % 2 < 2 := Nat.mod_lt _ (by omega)
 have h2 : f.toNat % 2 < 2 := Nat.mod_lt _ (by omega)
 have e3 : (f.toNat : Int) % 2 = ((f.toNat % 2 : Nat) : Int) := by omega
 rw [e3]
 generalize x / 2 ^ q % 2 = a at *
 generalize f.toNat % 2 = b at *
 match a, b, h1, h2 with
 | 0, 0, _, _ => rfl
 | 0, 1, _, _ => rfl
 | 1, 0, _, _ => rfl
 | 1, 1, _, _ => rfl
theorem refSum (s : ByteArray) (w : World) (hl : s.size <= 9223372036854775807) :
 Calls Tryz.prog 110 #[.string s] w fun e w' => e = .returned (.int .u32 (S.sum s.data.toList : Int)) /\ w = w' := by
 go_enter Tryz.func110, Tryz.ntmps110
 go_wp2
 go_loop [3, 4] (fun c i => ∃ j : Nat, ∃ e : BitVec 32, j <= s.size /\ Hid (e = S.run (~~~ 0#32) (s.data.toList.take j)) /\ i = .int .i64 j /\ c = .int .u32 (e.toNat : Int)) (fun _ i => s.size - (intOf i).toNat)
 case atStart => exact ⟨0, ~~~ 0#32, by omega, rfl, rfl, by rw [show (~~~ 0#32).toNat = 4294967295 from by decide]; rfl⟩
 case round =>
  obtain ⟨j, e, hj, he, rfl, rfl⟩ := hrel
  by_cases hjl : j < s.size
  ·have hx := s[j].toNat_lt
   go_wp2
   go_loop [3, 5] (fun c i => ∃ q : Nat, ∃ f : BitVec 32, q <= 8 /\ Hid (f = S.rstN (s[j]).toNat q e) /\ i = .int .i64 q /\ c = .int .u32 (f.toNat : Int)) (fun _ i => 8 - (intOf i).toNat)
   case atStart => exact ⟨0, _, by omega, rfl, rfl, rfl⟩
   case round =>
    obtain ⟨q, f, hq, hf, rfl, rfl⟩ := hrel
    by_cases hq8 : q < 8
    ·have hfl := f.isLt
     have ht := S.rst_test s[j].toNat q f
     by_cases hb : (s[j].toNat / 2 ^ q % 2 == 1) = f.getLsbD 0
     ·have hb2 : (((s[j].toNat : Int) / 2 ^ q).tmod 2 != (f.toNat : Int) % 2) = false := by rw [ht, hb]; simp
      have hf2 : Hid (f >>> 1 = S.rstN (s[j]).toNat (q + 1) e) := by
       show _ = S.rst _ _ _
       unfold S.rst; rw [<- hf.out, if_pos hb]
      clear ht hb
      go_wp2
      go_round
      case rel => exact ⟨q + 1, _, by omega, hf2, by go_num, congrArg (Value.int .u32) (S.shr1 f)⟩
      case measure => simp [intOf]; omega
     ·have hb2 : (((s[j].toNat : Int) / 2 ^ q).tmod 2 != (f.toNat : Int) % 2) = true := by rw [ht]; simpa using hb
      have hf2 : Hid ((f >>> 1) ^^^ S.poly = S.rstN (s[j]).toNat (q + 1) e) := by
       show _ = S.rst _ _ _
       unfold S.rst; rw [<- hf.out, if_neg hb]
      have hv : Hid (Value.int .u32 (bits BinOp.xor IntKind.u32 ((f.toNat : Int) / 2) 3988292384) = .int .u32 (((f >>> 1) ^^^ S.poly).toNat : Int)) := by
       unfold Hid
       rw [S.shr1, <- S.xor32]; rfl
      clear ht hb
      go_wp2
      go_round
      case rel => exact ⟨q + 1, _, by omega, hf2, by go_num, hv.out⟩
      case measure => simp [intOf]; omega
    ·have hf2 : Hid (f = S.run (~~~ 0#32) (s.data.toList.take (j + 1))) := by
      unfold Hid; rw [S.run_take _ _ _ (by simpa using hjl), <- he.out, S.by1_rstN, hf.out, show q = 8 by omega]; rfl
     go_wp2
     go_round
     case rel => exact ⟨j + 1, f, by omega, hf2, by go_num, rfl⟩
     case measure => simp [intOf]; omega
  ·have hd2 : Hid ((S.sum s.data.toList : Int) = ((~~~ e).toNat : Int)) := by
    unfold Hid; rw [he.out, List.take_of_length_le (by simp; omega)]; rfl
   have hel := e.isLt
   have hn : Hid ((4294967295 : Int) - (e.toNat : Int) = ((~~~ e).toNat : Int)) := by
    unfold Hid; rw [BitVec.toNat_not]; omega
   go_wp2
   go_ret
   exact ⟨by rw [hd2.out, <- hn.out]; rfl, rfl⟩
end Go.Proofs.YtnjfioikpajhlaaGreat
namespace Go.Proofs.YtnjfioikpajhlaaGreat
open Go.RowKit
namespace W5
def fillTo (s : List UInt8) (n k : Nat) : List UInt8 := s.take k ++ List.replicate (n - k) 0
def fillL (s : List UInt8) (n : Nat) : List UInt8 := s.take n ++ List.replicate (n - s.length) 0
theorem fillTo_len (s : List UInt8) (n k : Nat) (h1 : k <= n) (h2 : k <= s.length) : (fillTo s n k).length = n := by
 unfold fillTo; rw [List.length_append, List.length_take, List.length_replicate]; omega
theorem fillTo_set (s : List UInt8) (n k : Nat) (h1 : k < n) (h2 : k < s.length) : (fillTo s n k).set k s[k] = fillTo s n (k + 1) := by
 unfold fillTo
 have h3 : (s.take k).length = k := by rw [List.length_take]; omega
 rw [List.set_append_right _ _ (by omega), h3, Nat.sub_self, List.take_succ_eq_append_getElem h2]
 have h4 : n - k = (n - (k + 1)) + 1 := by omega
 rw [h4, List.replicate_succ, List.set_cons_zero, List.append_assoc]
 rfl
theorem fillTo_all (s : List UInt8) (n : Nat) : fillTo s n (min s.length n) = fillL s n := by
 unfold fillTo fillL
 rcases Nat.le_total s.length n with h | h
 ·rw [Nat.min_eq_left h, List.take_of_length_le h, List.take_of_length_le (Nat.le_refl _)]
 ·rw [Nat.min_eq_right h, Nat.sub_self, Nat.sub_eq_zero_of_le h]
theorem fillL_len (s : List UInt8) (n : Nat) : (fillL s n).length = n := by
 unfold fillL; rw [List.length_append, List.length_take, List.length_replicate]; omega
end W5
theorem refFill (s : List UInt8) (n : Nat) (w : World) (hs : s.length <= 9223372036854775807) (hn : n <= 1000000) :
 Calls Tryz.prog 109 #[.string ⟨s.toArray⟩, .int .i64 (n : Int)] w fun e w' => e = .returned (strV (W5.fillL s n)) /\ Ext w w' := by
 obtain ⟨i0, hi0, hz0, hz1, hz2⟩ := info_parts info_u8
 have hsz : (⟨s.toArray⟩ : ByteArray).size = s.length := by simp [ByteArray.size]
 have hidx : ∀ k (h : k < s.length), (⟨s.toArray⟩ : ByteArray)[k]'(by rw [hsz]; exact h) = s[k] := fun k h => by
  show s.toArray[k] = _
  simp
 generalize hSS : (⟨s.toArray⟩ : ByteArray) = SS at *
 have HSS := qh hSS
 have hni : (n : Int) <= 1000000 := by omega
 have hsi : (s.length : Int) <= 9223372036854775807 := by omega
 have HIX := qh hidx
 clear hidx hSS
 go_enter Tryz.func109, Tryz.ntmps109
 go_wp2_with (first | (at_make; refine wpl_make _ rfl _ _ 56 rfl w.heap.size 5 i0 (.int .u8 0) Tryz.underlying56 hi0 hz0 hz1 rfl .i64 .i64 (n : Int) (n : Int) n n rfl rfl rfl rfl (Nat.le_refl _) (by rw [hz2]; omega) (by unfold maxLen; omega) (Nat.le_refl _) ?_; intro w1 hown hx hg) | fail)
 have hown1 : w1.ownsRow w.heap.size 5 1 (.slice (some ⟨w.heap.size, 0, none⟩) n n) n ((W5.fillTo s n 0).map byteVal) := by
  have e : (W5.fillTo s n 0).map byteVal = List.replicate n (.int .u8 0) := by unfold W5.fillTo; rw [List.take_zero, List.nil_append, Nat.sub_zero, List.map_replicate]; rfl
  rw [e]; exact hown
 have HO := qh hown1
 have HX := qh hx
 clear hown1 hown hx hg
 go_wp2
 go_loopw [6] (fun iv wr => ∃ k : Nat, k <= n /\ k <= s.length /\ iv = .int .i64 (k : Int) /\ wr.ownsRow w.heap.size 5 1 (.slice (some ⟨w.heap.size, 0, none⟩) n n) n ((W5.fillTo s n k).map byteVal) /\ Ext w wr) (fun iv _ => n - (intOf iv).toNat)
 case atStart => exact ⟨0, by omega, by omega, rfl, HO.out, HX.out⟩
 case round =>
  clear HO HX
  obtain ⟨k, hk1, hk2, rfl, hown, hx⟩ := hrel
  by_cases hlt : k < s.length /\ k < n
  ·obtain ⟨l1, l2⟩ := hlt
   have l1i : (k : Int) < (s.length : Int) := by omega
   have l2i : (k : Int) < (n : Int) := by omega
   have l3 : k < SS.size := by rw [hsz]; exact l1
   have hget : SS[k] = s[k] := HIX.out k l1
   have hkl : k < (W5.fillTo s n k).length := by rw [W5.fillTo_len _ _ _ hk1 hk2]; exact l2
   have hcell := hown.cellAt k (by rw [Nat.mul_one]; exact l2)
   rw [List.getElem?_map, List.getElem?_eq_getElem hkl] at hcell
   simp only [Option.map_some] at hcell
   have hfro := hown.frozenAt k
   have hst := (hown.stored k (byteVal s[k])).1
   rw [<- List.map_set, W5.fillTo_set _ _ _ l2 l1] at hst
   have hx' := hx.setCell (p := ⟨w.heap.size, k, none⟩) (Nat.le_refl _) (byteVal s[k])
   unfold byteVal at hst hx'
   rw [<- hget] at hst hx'
   have HST := qh hst
   have HXS := qh hx'
   clear hst hx' hown hx hget
   generalize byteVal (W5.fillTo s n k)[k] = u0 at *
   clear hkl
   go_wp2
   go_roundw
   case rel => exact ⟨k + 1, by omega, by omega, by go_num, HST.out, HXS.out⟩
   case measure => (simp [intOf]; try omega)
  ·have hkm : k = min s.length n := by omega
   rw [hkm, W5.fillTo_all] at hown
   have cv := (Bs.of_own hown).toString (P := Tryz.prog) 56 9 5 Tryz.underlying56 Tryz.underlying5 Tryz.underlying9
   have HXF := qh hx
   clear hown hx
   by_cases l1 : k < s.length
   ·obtain rfl : k = n := by omega
    have l1i : (k : Int) < (s.length : Int) := by omega
    clear hkm hlt
    go_wp2
    go_ret
    exact ⟨rfl, HXF.out⟩
   ·obtain rfl : k = s.length := by omega
    clear hkm hlt
    go_wp2
    go_ret
    exact ⟨rfl, HXF.out⟩
end Go.Proofs.YtnjfioikpajhlaaGreat
namespace Go.Proofs.YtnjfioikpajhlaaGreat
open Go.RowKit
theorem refSum_s (l : List UInt8) (w : World) (hl : l.length <= 9223372036854775807) :
 Calls Tryz.prog 110 #[.string ⟨l.toArray⟩] w fun e w' => e = .returned (.int .u32 (S.sum l : Int)) /\ w = w' := by
 have h := refSum ⟨l.toArray⟩ w (by simpa [ByteArray.size] using hl)
 simpa using h
theorem refGet_s (l : List UInt8) (at_ size : Int) (w : World) (hl : l.length <= 9223372036854775807) (hat : at_ <= 9223372036854775807) :
 Calls Tryz.prog 94 #[.string ⟨l.toArray⟩, .int .i64 at_, .int .i64 size] w fun e w' => e = .returned (.tuple #[.int .u64 ((W.get l at_ size).1 : Int), .int .i64 ((W.get l at_ size).2 : Int)]) /\ w = w' := by
 have h := refGet ⟨l.toArray⟩ at_ size w (by simpa [ByteArray.size] using hl) hat
 simpa using h
namespace W5
theorem fill_sealed (s : List UInt8) (h : s.length <= 508) : fillL s 508 ++ W.be 4 (S.sum (fillL s 508)) = sealed s := by
 unfold fillL sealed
 rw [List.take_of_length_le h]
def sealedT (s : List UInt8) : List UInt8 := fillL s 508 ++ W.be 4 (S.sum (fillL s 508))
theorem sealedT_eq (s : List UInt8) (h : s.length <= 508) : sealedT s = sealed s := fill_sealed s h
def pieceT (gen record i pieces size : Nat) (body : List UInt8) : List UInt8 := sealedT ((((([2] ++ W.be 4 gen) ++ W.be 4 record) ++ W.be 2 i) ++ W.be 2 pieces) ++ W.be 4 size ++ fillL body 491)
theorem be_mod (k : Nat) : ∀ n, W.be k (n % 256 ^ k) = W.be k n := by
 induction k with
 | zero => intro n; rfl
 | succ k ih =>
  intro n
  rw [W.be_snoc, W.be_snoc]
  have e1 : n % 256 ^ (k + 1) / 256 = n / 256 % 256 ^ k := by
   rw [Nat.pow_succ, Nat.mul_comm, Nat.mod_mul_right_div_self]
  have e2 : UInt8.ofNat (n % 256 ^ (k + 1)) = UInt8.ofNat n := by
   apply UInt8.toNat_inj.1
   have : n % 256 ^ (k + 1) % 256 = n % 256 := Nat.mod_mod_of_dvd _ ⟨256 ^ k, by rw [Nat.pow_succ, Nat.mul_comm]⟩
   simpa using this
  rw [e1, ih, e2]
theorem div32 (a r : Nat) (h : r < 4294967296) : (a * 4294967296 + r) / 4294967296 = a := by omega
theorem mod32 (a r : Nat) : (a * 4294967296 + r % 4294967296) % 4294967296 = r % 4294967296 := by omega
theorem div32b (i N l : Nat) : (i % 65536 * 281474976710656 + N % 65536 * 4294967296 + l % 4294967296) / 4294967296 = i % 65536 * 65536 + N % 65536 := by omega
theorem mod32b (i N l : Nat) : (i % 65536 * 281474976710656 + N % 65536 * 4294967296 + l % 4294967296) % 4294967296 = l % 4294967296 := by omega
theorem div16 (i N : Nat) : (i % 65536 * 65536 + N % 65536) / 65536 = i % 65536 := by omega
theorem mod16 (i N : Nat) : (i % 65536 * 65536 + N % 65536) % 65536 = N % 65536 := by omega
theorem p4 : (256 : Nat) ^ 4 = 4294967296 := by decide
theorem p2 : (256 : Nat) ^ 2 = 65536 := by decide
theorem be4_mod (n m : Nat) (h : n % 4294967296 = m % 4294967296) : W.be 4 n = W.be 4 m := by
 have h1 := be_mod 4 n
 have h2 := be_mod 4 m
 rw [p4] at h1 h2
 rw [<- h1, <- h2, h]
theorem pieceT_eq (gen record i : Nat) (b : List UInt8) (hg : gen < 4294967296) : pieceT gen record i (need b.length) b.length ((b.drop (i * 491)).take 491) = piece gen record i b := by
 have hl : ((((([2] ++ W.be 4 gen) ++ W.be 4 record) ++ W.be 2 i) ++ W.be 2 (need b.length)) ++ W.be 4 b.length ++ fillL ((b.drop (i * 491)).take 491) 491).length = 508 := by
  simp only [List.length_append, W.be_length, fillL_len, List.length_singleton]
 unfold pieceT piece
 rw [sealedT_eq _ (Nat.le_of_eq hl), sealed_full _ hl]
 have hb := pieceB_len gen record i b
 unfold sealed
 have e : (((((([2] ++ W.be 4 gen) ++ W.be 4 record) ++ W.be 2 i) ++ W.be 2 (need b.length)) ++ W.be 4 b.length ++ fillL ((b.drop (i * 491)).take 491) 491)) = pieceB gen record i b ++ List.replicate (508 - (pieceB gen record i b).length) 0 := by
  have h1 : W.be 8 (gen * 4294967296 + record % 4294967296) = W.be 4 gen ++ W.be 4 record := by
   rw [W.be_add 4 4]
   have a1 : (gen * 4294967296 + record % 4294967296) / 256 ^ 4 = gen := by rw [p4]; exact div32 _ _ (Nat.mod_lt _ (by decide))
   rw [a1, be4_mod _ _ (mod32 gen record)]
  have h2 : W.be 8 (i % 65536 * 281474976710656 + need b.length % 65536 * 4294967296 + b.length % 4294967296) = W.be 2 i ++ W.be 2 (need b.length) ++ W.be 4 b.length := by
   generalize need b.length = N
   generalize b.length = l
   rw [W.be_add 4 4, W.be_add 2 2]
   have a1 : (i % 65536 * 281474976710656 + N % 65536 * 4294967296 + l % 4294967296) / 256 ^ 4 = i % 65536 * 65536 + N % 65536 := by rw [p4]; exact div32b _ _ _
   have a2 : (i % 65536 * 65536 + N % 65536) / 256 ^ 2 = i % 65536 := by rw [p2]; exact div16 _ _
   rw [a1, a2]
   have b1 : W.be 2 (i % 65536) = W.be 2 i := by rw [<- p2]; exact be_mod 2 i
   have b2 : W.be 2 (i % 65536 * 65536 + N % 65536) = W.be 2 N := by
    have e1 := be_mod 2 (i % 65536 * 65536 + N % 65536)
    have e2 := be_mod 2 N
    rw [p2] at e1 e2
    have e3 : (i % 65536 * 65536 + N % 65536) % 65536 = N % 65536 := mod16 _ _
    rw [<- e1, e3, e2]
   have b3 := be4_mod _ _ (mod32b i N l)
   rw [b1, b2, b3]
  have hc : ((b.drop (i * 491)).take 491).length <= 491 := by rw [List.length_take]; omega
  have hlen : (pieceB gen record i b).length = 17 + ((b.drop (i * 491)).take 491).length := by
   unfold pieceB
   simp only [List.length_append, List.length_cons, W.be_length]
  rw [hlen]
  unfold pieceB fillL
  rw [h1, h2, List.take_of_length_le hc]
  have hr : 508 - (17 + ((b.drop (i * 491)).take 491).length) = 491 - ((b.drop (i * 491)).take 491).length := by omega
  rw [hr]
  simp only [List.append_assoc, List.cons_append, List.nil_append]
 rw [e]
end W5
theorem refSealed (s : List UInt8) (w : World) (hs : s.length <= 1000000) :
 Calls Tryz.prog 96 #[.string ⟨s.toArray⟩] w fun e w' => e = .returned (strV (W5.sealedT s)) /\ Ext w w' := by
 have hf := refFill s 508 w (by omega) (by decide)
 have hfl := W5.fillL_len s 508
 have HF := qh hf
 have hun : strV (W5.sealedT s) = .string ⟨(W5.fillL s 508 ++ W.be (W.sz 4) (S.sum (W5.fillL s 508))).toArray⟩ := rfl
 have HUN := qh hun
 clear hf hun
 go_enter Tryz.func96, Tryz.ntmps96
 go_wp2_with fail
 refine HF.out.mono ?_
 clear HF
 rintro e w1 ⟨rfl, hx1⟩
 have HX1 := qh hx1
 clear hx1
 unfold strV
 generalize W5.fillL s 508 = X at *
 go_wp2_with fail
 refine (refSum_s X w1 (by omega)).mono ?_
 rintro e w2 ⟨rfl, rfl⟩
 have hsl := sum_lt X
 generalize hne : S.sum X = n at *
 have HNE := qh hne
 clear hne
 have hni : (n : Int) < 4294967296 := by omega
 go_wp2_with fail
 refine (refPut X n 4 w1 (by omega) (by omega) (by decide) (by decide)).mono ?_
 rintro e w2 ⟨rfl, hx2⟩
 have HX2 := qh (HX1.out.trans hx2)
 clear hx2
 go_wp2
 go_ret
 rw [HUN.out]
 exact ⟨rfl, HX2.out⟩
theorem refHead (g : Nat) (w : World) (hg : g < 4294967296) :
 Calls Tryz.prog 95 #[.int .u32 (g : Int)] w fun e w' => e = .returned (strV (W5.head g)) /\ Ext w w' := by
 have hgi : (g : Int) < 4294967296 := by omega
 have hun : W5.head g = W5.sealedT ([1] ++ W.be (W.sz 4) g) := by
  rw [W5.sealedT_eq _ (by rw [List.length_append, W.be_length]; decide)]; rfl
 have HUN := qh hun
 have hlen : ([1] ++ W.be (W.sz 4) g).length <= 1000000 := by rw [List.length_append, W.be_length]; decide
 clear hun
 go_enter Tryz.func95, Tryz.ntmps95
 go_wp2_with fail
 refine (refPut [1] g 4 w (by omega) (by decide) (by decide) (by decide)).mono ?_
 rintro e w1 ⟨rfl, hx1⟩
 have HX1 := qh hx1
 clear hx1
 generalize [1] ++ W.be (W.sz 4) g = X at *
 go_wp2_with fail
 refine (refSealed X w1 hlen).mono ?_
 rintro e w2 ⟨rfl, hx2⟩
 have HX2 := qh (HX1.out.trans hx2)
 clear hx2
 go_wp2
 go_ret
 rw [HUN.out]
 exact ⟨rfl, HX2.out⟩
theorem refPiece (g record i pieces size : Nat) (body : List UInt8) (w : World) (hg : g < 4294967296) (hr : record < 18446744073709551616) (hi : i < 18446744073709551616) (hp : pieces < 18446744073709551616) (hz : size < 18446744073709551616) (hb : body.length <= 1000000) :
 Calls Tryz.prog 111 #[.int .u32 (g : Int), .int .u64 (record : Int), .int .u64 (i : Int), .int .u64 (pieces : Int), .int .u64 (size : Int), .string ⟨body.toArray⟩] w fun e w' => e = .returned (strV (W5.pieceT g record i pieces size body)) /\ Ext w w' := by
 have hgi : (g : Int) < 4294967296 := by omega
 have hf := fun w => refFill body 491 w (by omega) (by decide)
 have HF := qh hf
 have HUN := qh (show W5.pieceT g record i pieces size body = W5.sealedT ((((([2] ++ W.be (W.sz 4) g) ++ W.be (W.sz 4) record) ++ W.be (W.sz 2) i) ++ W.be (W.sz 2) pieces) ++ W.be (W.sz 4) size ++ W5.fillL body 491) from rfl)
 have l1 : ([2] ++ W.be (W.sz 4) g).length = 5 := by rw [List.length_append, W.be_length]; rfl
 clear hf
 go_enter Tryz.func111, Tryz.ntmps111
 go_wp2_with fail
 refine (refPut [2] g 4 w (by omega) (by decide) (by decide) (by decide)).mono ?_
 rintro e w1 ⟨rfl, hx1⟩
 have HX1 := qh hx1
 clear hx1
 generalize [2] ++ W.be (W.sz 4) g = X1 at *
 go_wp2_with fail
 refine (refPut X1 record 4 w1 hr (by omega) (by decide) (by decide)).mono ?_
 rintro e w2 ⟨rfl, hx2⟩
 have l2 : (X1 ++ W.be (W.sz 4) record).length = 9 := by rw [List.length_append, W.be_length, l1]; rfl
 have HX2 := qh (HX1.out.trans hx2)
 clear hx2 HX1
 generalize X1 ++ W.be (W.sz 4) record = X2 at *
 go_wp2_with fail
 refine (refPut X2 i 2 w2 hi (by omega) (by decide) (by decide)).mono ?_
 rintro e w3 ⟨rfl, hx3⟩
 have l3 : (X2 ++ W.be (W.sz 2) i).length = 11 := by rw [List.length_append, W.be_length, l2]; rfl
 have HX3 := qh (HX2.out.trans hx3)
 clear hx3 HX2
 generalize X2 ++ W.be (W.sz 2) i = X3 at *
 go_wp2_with fail
 refine (refPut X3 pieces 2 w3 hp (by omega) (by decide) (by decide)).mono ?_
 rintro e w4 ⟨rfl, hx4⟩
 have l4 : (X3 ++ W.be (W.sz 2) pieces).length = 13 := by rw [List.length_append, W.be_length, l3]; rfl
 have HX4 := qh (HX3.out.trans hx4)
 clear hx4 HX3
 generalize X3 ++ W.be (W.sz 2) pieces = X4 at *
 go_wp2_with fail
 refine (refPut X4 size 4 w4 hz (by omega) (by decide) (by decide)).mono ?_
 rintro e w5 ⟨rfl, hx5⟩
 have l5 : (X4 ++ W.be (W.sz 4) size).length = 17 := by rw [List.length_append, W.be_length, l4]; rfl
 have HX5 := qh (HX4.out.trans hx5)
 clear hx5 HX4
 generalize X4 ++ W.be (W.sz 4) size = X5 at *
 go_wp2_with fail
 refine (HF.out w5).mono ?_
 rintro e w6 ⟨rfl, hx6⟩
 have l6 := W5.fillL_len body 491
 have HX6 := qh (HX5.out.trans hx6)
 clear hx6 HX5
 unfold strV
 generalize W5.fillL body 491 = X6 at *
 have hadd := ba_append X5 X6
 have l7 : (X5 ++ X6).length <= 1000000 := by rw [List.length_append, l5, l6]; decide
 have hsz : ((⟨(X5 ++ X6).toArray⟩ : ByteArray)).size = 508 := by simp only [ByteArray.size, List.size_toArray, List.length_append, l5, l6]
 go_wp2_with fail
 refine (refSealed (X5 ++ X6) w6 l7).mono ?_
 rintro e w7 ⟨rfl, hx7⟩
 have HX7 := qh (HX6.out.trans hx7)
 clear hx7
 go_wp2
 go_ret
 rw [HUN.out]
 exact ⟨rfl, HX7.out⟩
end Go.Proofs.YtnjfioikpajhlaaGreat
namespace Go.Proofs.YtnjfioikpajhlaaGreat
open Go.RowKit
def wc (x : Int × List UInt8) : List Value := [.int .i64 x.1, strV x.2]
theorem wc_len (x : Int × List UInt8) : (wc x).length = 2 := rfl
def RowIn (w : World) (v : Value) (l : List (Int × List UInt8)) : Prop := w.ownsRow 0 123 2 v l.length (l.flatMap wc)
theorem RowIn.ext {w w' : World} {v : Value} {l : List (Int × List UInt8)} (h : RowIn w v l) (hx : Ext w w') : RowIn w' v l := hx.keptOwn h
theorem RowIn.nil (w : World) : RowIn w (.slice none 0 0) [] := World.ownsRow_nil _ _ _ _
theorem RowIn.shape {w : World} {v : Value} {l : List (Int × List UInt8)} (h : RowIn w v l) : ∃ a cap, v = .slice a l.length cap := by
 rcases h.2 with ⟨rfl, h0⟩ | ⟨g, cap, cur, rfl, _⟩
 ·exact ⟨none, 0, by rw [h0]⟩
 ·exact ⟨_, _, rfl⟩
theorem RowIn.len {w : World} {v : Value} {l : List (Int × List UInt8)} (h : RowIn w v l) : l.length <= 9223372036854775807 := by
 rcases h.2 with ⟨_, h0⟩ | ⟨g, cap, cur, _, _, _, hnc, hcm, _⟩
 ·omega
 ·unfold maxLen at hcm; omega
theorem ref_zeros (w : World) : Calls Tryz.prog 107 #[] w fun e w' => e = .returned (strV (List.replicate 512 0)) /\ w = w' := by
 go_enter Tryz.func107, Tryz.ntmps107
 go_wp2
 go_loop [1] (fun sv => ∃ k N : Nat, k <= 9 /\ Hid (N = 2 ^ k) /\ sv = .string ⟨(List.replicate N (0 : UInt8)).toArray⟩) (fun sv => match sv with | .string s => 512 - s.size | _ => 0)
 case atStart => exact ⟨0, 1, by omega, rfl, rfl⟩
 case round =>
  obtain ⟨k, N, hk, hN, rfl⟩ := hrel
  by_cases hk9 : k < 9
  ·have hN2 : N < 512 /\ 0 < N := by
    have h1 : 2 ^ k <= 2 ^ 8 := Nat.pow_le_pow_right (by omega) (by omega)
    have h2 : 0 < 2 ^ k := Nat.pow_pos (by omega)
    rw [hN.out]; omega
   have hNi : (N : Int) < 512 := by omega
   have hadd : (⟨(List.replicate N (0 : UInt8)).toArray⟩ : ByteArray) ++ ⟨(List.replicate N (0 : UInt8)).toArray⟩ = ⟨(List.replicate (N + N) (0 : UInt8)).toArray⟩ := by
    rw [ba_append, List.replicate_append_replicate]
   have hN3 : Hid (N + N = 2 ^ (k + 1)) := by unfold Hid; rw [hN.out, Nat.pow_succ]; omega
   have hsz : (⟨(List.replicate N (0 : UInt8)).toArray⟩ : ByteArray).size = N := by simp [ByteArray.size]
   have hsz2 : (⟨(List.replicate (N + N) (0 : UInt8)).toArray⟩ : ByteArray).size = N + N := by simp [ByteArray.size]
   have hsz3 : (⟨(List.replicate N (0 : UInt8)).toArray⟩ : ByteArray).data.size = N := by simp
   generalize hS : (⟨(List.replicate N (0 : UInt8)).toArray⟩ : ByteArray) = S at *
   have HS := qh hS
   clear hS
   go_wp2
   go_round
   case rel => exact ⟨k + 1, N + N, by omega, hN3, by simp⟩
   case measure => (simp only [ByteArray.size, Array.size_replicate, List.size_toArray, List.length_replicate]; omega)
  ·obtain rfl : k = 9 := by omega
   obtain rfl : N = 512 := by rw [hN.out]
   have hsz : (⟨(List.replicate 512 (0 : UInt8)).toArray⟩ : ByteArray).size = 512 := by simp only [ByteArray.size, List.size_toArray, List.length_replicate]
   generalize hS : (⟨(List.replicate 512 (0 : UInt8)).toArray⟩ : ByteArray) = S at *
   go_wp2
   go_ret
   rw [<- hS]
   exact ⟨rfl, rfl⟩
def lastV : Option (List UInt8) -> Value
 | some s => .tuple #[strV s, .bool true]
 | none => .tuple #[strV [], .bool false]
theorem ref_last (v : Value) (l : List (Int × List UInt8)) (i : Int) (w : World) (h : RowIn w v l) :
 Calls Tryz.prog 106 #[v, .int .i64 i] w fun e w' => e = .returned (lastV (D.look l i)) /\ w = w' := by
 obtain ⟨a, cap, rfl⟩ := h.shape
 have hl := h.len
 have H := qh h
 clear h
 go_enter Tryz.func106, Tryz.ntmps106
 go_wp2
 go_loop [6] (fun kv => ∃ k : Nat, k <= l.length /\ kv = .int .i64 ((k : Int) - 1) /\ Hid (D.look l i = D.look (l.take k) i)) (fun kv => (intOf kv + 1).toNat)
 case atStart => exact ⟨l.length, Nat.le_refl _, rfl, by unfold Hid; rw [List.take_length]⟩
 case round =>
  obtain ⟨k, hk, rfl, hlk⟩ := hrel
  match k, hk, hlk with
  | 0, hk, hlk =>
   have hnone : D.look l i = none := by rw [hlk.out]; rfl
   have HN := qh hnone
   clear hnone hlk
   go_wp2
   go_ret2
   rw [HN.out]
   exact ⟨rfl, rfl⟩
  | k + 1, hk, hlk =>
   have e : (((k + 1 : Nat) : Int) - 1) = (k : Int) := by omega
   rw [e]
   clear e
   have hkl : k < l.length := by omega
   obtain ⟨g, cp, heq, _, _, hcp, hcm, hrg⟩ := own_range H.out (fun x _ => wc_len x) (by decide) k hkl
   simp only [Value.slice.injEq] at heq
   obtain ⟨rfl, _, rfl⟩ := heq
   have hr := hrg k hkl
   have hck : w.cell? ⟨g, k * 2, none⟩ = some (.int .i64 l[k].1) := hr 0 _ rfl
   have hcs : w.cell? ⟨g, k * 2 + 1, none⟩ = some (strV l[k].2) := hr 1 _ rfl
   have hlt := D.look_take l k hkl i
   by_cases hmi : l[k].1 = i
   ·rw [if_pos hmi] at hlt
    have HN := qh (hlk.out.trans hlt)
    rw [hmi] at hck
    clear hlt hr hrg hmi hlk
    generalize l[k].2 = S at *
    unfold strV at hcs
    go_wp2
    go_ret2
    rw [HN.out]
    exact ⟨rfl, rfl⟩
   ·rw [if_neg hmi] at hlt
    have hne : (l[k].1 == i) = false := beq_eq_false_iff_ne.2 hmi
    have hl2 : Hid (D.look l i = D.look (l.take k) i) := by unfold Hid; rw [hlk.out, hlt]
    clear hlt hr hrg hlk hmi hcs
    go_wp2
    go_round
    case rel => exact ⟨k, by omega, rfl, hl2⟩
    case measure => (simp [intOf]; try omega)
structure Ref4 where
 n : Int
 safe : List (Int × List UInt8)
 wait : List (Int × List UInt8)
 armed : Bool
 down : Bool
 after : Int
def R4.sector (r : Ref4) (i : Int) : List UInt8 := (D.look r.wait i).getD ((D.look r.safe i).getD (List.replicate 512 0))
def R4.readE (r : Ref4) (i : Int) : Int := if i < 0 ∨ r.n <= i then 1 else if r.down then 3 else 0
def R4.readB (r : Ref4) (i : Int) : List UInt8 := if i < 0 ∨ r.n <= i then [] else if r.down then [] else R4.sector r i
def rv (r : Ref4) (sv wv : Value) : Value := .agg #[.int .i64 r.n, sv, wv, .bool r.armed, .bool r.down, .int .i64 r.after]
theorem ref_sector (r : Ref4) (sv wv : Value) (i : Int) (w : World) (hs : RowIn w sv r.safe) (hw : RowIn w wv r.wait) :
 Calls Tryz.prog 93 #[rv r sv wv, .int .i64 i] w fun e w' => e = .returned (strV (R4.sector r i)) /\ Ext w w' := by
 obtain ⟨n, safe, wait, armed, down, after⟩ := r
 simp only at hs hw
 have HS := qh hs
 have HW := qh hw
 clear hs hw
 unfold rv R4.sector
 simp only
 go_enter Tryz.func93, Tryz.ntmps93
 have hx1 := Ext.of_alloc w (.cells #[.int .i64 n, sv, wv, .bool armed, .bool down, .int .i64 after] 33)
 cases hlw : D.look wait i with
 | some s =>
  go_wp2_with fail
  refine (ref_last wv wait i _ (HW.out.ext hx1)).mono ?_
  rintro e w1 ⟨rfl, rfl⟩
  rw [hlw]
  unfold lastV strV
  go_wp2
  go_ret
  exact ⟨rfl, hx1⟩
 | none =>
  have c1 : (w.alloc (.cells #[.int .i64 n, sv, wv, .bool armed, .bool down, .int .i64 after] 33)).cell? ⟨w.heap.size, 1, none⟩ = some sv := by rw [World.cell?_alloc_at _ _ _ _ rfl]; rfl
  have h1 := HS.out.ext hx1
  have h2 := HW.out.ext hx1
  go_wp2_with fail
  generalize w.alloc (.cells #[.int .i64 n, sv, wv, .bool armed, .bool down, .int .i64 after] 33) = w1 at *
  refine (ref_last wv wait i _ h2).mono ?_
  rintro e w2 ⟨rfl, rfl⟩
  rw [hlw]
  unfold lastV strV
  go_wp2_with fail
  refine (ref_last sv safe i _ h1).mono ?_
  rintro e w2 ⟨rfl, rfl⟩
  cases hls : D.look safe i with
  | some s =>
   unfold lastV strV
   go_wp2
   go_ret
   rw [hls]
   exact ⟨rfl, hx1⟩
  | none =>
   unfold lastV strV
   go_wp2_with fail
   refine (ref_zeros _).mono ?_
   rintro e w2 ⟨rfl, rfl⟩
   go_wp2
   go_ret
   rw [hls]
   exact ⟨by first | rfl | (simp only [Option.getD_none]; assumption), hx1⟩
def readV (r : Ref4) (i : Int) : Value := .tuple #[strV (R4.readB r i), .int .i64 (R4.readE r i)]
theorem ref_read (r : Ref4) (sv wv : Value) (i : Int) (w : World) (hs : RowIn w sv r.safe) (hw : RowIn w wv r.wait) :
 Calls Tryz.prog 82 #[rv r sv wv, .int .i64 i] w fun e w' => e = .returned (readV r i) /\ Ext w w' := by
 obtain ⟨n, safe, wait, armed, down, after⟩ := r
 have hsec := fun w (hs : RowIn w sv safe) (hw : RowIn w wv wait) => ref_sector ⟨n, safe, wait, armed, down, after⟩ sv wv i w hs hw
 simp only at hs hw
 have HS := qh hs
 have HW := qh hw
 clear hs hw
 have hx1 := Ext.of_alloc w (.cells #[.int .i64 n, sv, wv, .bool armed, .bool down, .int .i64 after] 33)
 by_cases h1 : i < 0 ∨ n <= i
 ·have hr : readV ⟨n, safe, wait, armed, down, after⟩ i = .tuple #[strV [], .int .i64 1] := by
   unfold readV R4.readB R4.readE
   rw [if_pos h1, if_pos h1]
  rw [hr]
  unfold rv strV
  simp only
  clear hr hsec
  by_cases h2 : i < 0
  ·clear h1
   go_enter Tryz.func82, Tryz.ntmps82
   go_wp2
   go_ret2
   exact ⟨rfl, hx1⟩
  ·have h3 : n <= i := by omega
   clear h1
   go_enter Tryz.func82, Tryz.ntmps82
   go_wp2
   go_ret2
   exact ⟨rfl, hx1⟩
 ·have h2 : ¬ i < 0 := by omega
  have h3 : ¬ n <= i := by omega
  cases down
  ·have hr : readV ⟨n, safe, wait, armed, false, after⟩ i = .tuple #[strV (R4.sector ⟨n, safe, wait, armed, false, after⟩ i), .int .i64 0] := by
    unfold readV R4.readB R4.readE
    rw [if_neg h1, if_neg h1]; rfl
   rw [hr]
   unfold rv
   unfold rv at hsec
   simp only at hsec ⊢
   generalize R4.sector ⟨n, safe, wait, armed, false, after⟩ i = S at *
   have hc := hsec _ (HS.out.ext hx1) (HW.out.ext hx1)
   clear hr hsec h1
   go_enter Tryz.func82, Tryz.ntmps82
   go_wp2_with fail
   refine hc.mono ?_
   rintro e w2 ⟨rfl, hx2⟩
   have HXX := qh (hx1.trans hx2)
   clear hx1 hx2 hc
   unfold strV
   go_wp2
   go_ret2
   exact ⟨rfl, HXX.out⟩
  ·have hr : readV ⟨n, safe, wait, armed, true, after⟩ i = .tuple #[strV [], .int .i64 3] := by
    unfold readV R4.readB R4.readE
    rw [if_neg h1, if_neg h1]; rfl
   rw [hr]
   unfold rv strV
   simp only
   clear hr hsec h1
   go_enter Tryz.func82, Tryz.ntmps82
   go_wp2
   go_ret2
   exact ⟨rfl, hx1⟩
end Go.Proofs.YtnjfioikpajhlaaGreat
namespace Go.Proofs.YtnjfioikpajhlaaGreat
open Go.RowKit
structure RefAt (w : World) (X : Nat -> Prop) (r : Ref4) (sv wv : Value) : Prop where
 safe : RowIn w sv r.safe
 wait : RowIn w wv r.wait
 sX : ∀ k, sv.ownBlock = some k -> X k
 wX : ∀ k, wv.ownBlock = some k -> X k
theorem RefAt.ext {w w' : World} {X : Nat -> Prop} {r : Ref4} {sv wv : Value} (h : RefAt w X r sv wv) (hx : Ext w w') : RefAt w' X r sv wv := ⟨h.safe.ext hx, h.wait.ext hx, h.sX, h.wX⟩
theorem RefAt.more {w : World} {X Y : Nat -> Prop} {r : Ref4} {sv wv : Value} (h : RefAt w X r sv wv) (hXY : ∀ k, X k -> Y k) : RefAt w Y r sv wv := ⟨h.safe, h.wait, fun k hk => hXY k (h.sX k hk), fun k hk => hXY k (h.wX k hk)⟩
theorem RefAt.all {w w' : World} {X : Nat -> Prop} {r : Ref4} {sv wv : Value} (h : RefAt w X r sv wv) (hx : Ext w w') : RefAt w' (New X w w') r sv wv := (h.ext hx).more (fun _ hk => .inl hk)
theorem RefAt.keeps {w w' : World} {X : Nat -> Prop} {r : Ref4} {sv wv : Value} (h : RefAt w X r sv wv) (hk : Keeps X w w') : RefAt w' X r sv wv := ⟨hk.own h.safe h.sX, hk.own h.wait h.wX, h.sX, h.wX⟩
def R4.next (r : Ref4) : Ref4 × Bool :=
 if r.down then (r, false) else if r.armed && r.after == 0 then ({ r with down := true, armed := false }, false) else if r.armed then ({ r with after := wrap64 (r.after - 1) }, true) else (r, true)
theorem next_rows (r : Ref4) : (R4.next r).1.safe = r.safe /\ (R4.next r).1.wait = r.wait /\ (R4.next r).1.n = r.n := by
 unfold R4.next
 split
 ·exact ⟨rfl, rfl, rfl⟩
 ·split
  ·exact ⟨rfl, rfl, rfl⟩
  ·split <;> exact ⟨rfl, rfl, rfl⟩
theorem RowIn.any {w : World} {v : Value} {l : List (Int × List UInt8)} (h : RowIn w v l) : ∃ a n cap, v = .slice a n cap := by
 obtain ⟨a, cap, e⟩ := h.shape
 exact ⟨a, _, cap, e⟩
theorem ref_next (r : Ref4) (sv wv : Value) (w : World) (hs : ∃ a n cap, sv = .slice a n cap) (hw : ∃ a n cap, wv = .slice a n cap) :
 Calls Tryz.prog 101 #[rv r sv wv] w fun e w' => e = .returned (.tuple #[rv (R4.next r).1 sv wv, .bool (R4.next r).2]) /\ Ext w w' := by
 obtain ⟨n, safe, wait, armed, down, after⟩ := r
 obtain ⟨sa, sn, sc, rfl⟩ := hs
 obtain ⟨wa, wn, wc, rfl⟩ := hw
 cases down
 ·cases armed
  ·have hr : R4.next ⟨n, safe, wait, false, false, after⟩ = (⟨n, safe, wait, false, false, after⟩, true) := rfl
   rw [hr]
   unfold rv
   simp only
   clear hr
   go_enter Tryz.func101, Tryz.ntmps101
   go_wp2
   refine bodyPost_ret (v := .tuple #[.agg #[.int .i64 n, .slice sa sn sc, .slice wa wn wc, .bool false, .bool false, .int .i64 after], .bool true]) (by simp [results, Tryz.results101, go_sem]) rfl ⟨rfl, (Ext.of_alloc w _).alloc _⟩
  ·by_cases h0 : after = 0
   ·subst h0
    have hr : R4.next ⟨n, safe, wait, true, false, 0⟩ = (⟨n, safe, wait, false, true, 0⟩, false) := rfl
    rw [hr]
    unfold rv
    simp only
    clear hr
    go_enter Tryz.func101, Tryz.ntmps101
    go_wp2
    refine bodyPost_ret (v := .tuple #[.agg #[.int .i64 n, .slice sa sn sc, .slice wa wn wc, .bool false, .bool true, .int .i64 0], .bool false]) (by simp [results, Tryz.results101, go_sem]) rfl ⟨rfl, (Ext.of_alloc w _).alloc _⟩
   ·have hb : (after == 0) = false := beq_eq_false_iff_ne.2 h0
    have hr : R4.next ⟨n, safe, wait, true, false, after⟩ = (⟨n, safe, wait, true, false, wrap64 (after - 1)⟩, true) := by
     unfold R4.next
     simp [hb]
    rw [hr]
    unfold rv
    simp only
    clear hr
    go_enter Tryz.func101, Tryz.ntmps101
    go_wp2
    refine bodyPost_ret (v := .tuple #[.agg #[.int .i64 n, .slice sa sn sc, .slice wa wn wc, .bool true, .bool false, .int .i64 (wrap64 (after - 1))], .bool true]) (by simp [results, Tryz.results101, go_sem]) rfl ⟨rfl, (Ext.of_alloc w _).alloc _⟩
 ·have hr : R4.next ⟨n, safe, wait, armed, true, after⟩ = (⟨n, safe, wait, armed, true, after⟩, false) := rfl
  rw [hr]
  unfold rv
  simp only
  clear hr
  go_enter Tryz.func101, Tryz.ntmps101
  go_wp2
  refine bodyPost_ret (v := .tuple #[.agg #[.int .i64 n, .slice sa sn sc, .slice wa wn wc, .bool armed, .bool true, .int .i64 after], .bool false]) (by simp [results, Tryz.results101, go_sem]) rfl ⟨rfl, (Ext.of_alloc w _).alloc _⟩
theorem info_w4 : ∃ i z, Tryz.prog.info? 123 = some i /\ i.zero = some z /\ i.size = 2 /\ i.bytes = 24 /\ z.cells.size = 2 := by
 have hi : (Tryz.prog.info? 123).map (fun i => (i.zero, i.size, i.bytes)) = some (some (.agg #[.int .i64 0, .string ⟨#[]⟩]), 2, 24) := by kernel_rfl
 obtain ⟨i, h1, h2, h3, h4⟩ := info_parts hi
 exact ⟨i, _, h1, h2, h3, h4, rfl⟩
theorem wc_one (l : List (Int × List UInt8)) : ∀ u ∈ l.flatMap wc, u.oneCell' = true := by
 intro u hu
 obtain ⟨x, _, hx⟩ := List.mem_flatMap.1 hu
 simp only [wc, List.mem_cons, List.not_mem_nil, or_false] at hx
 rcases hx with rfl | rfl <;> rfl
theorem ref_joined (va vb : Value) (a b : List (Int × List UInt8)) (w : World) (ha : RowIn w va a) (hb : RowIn w vb b) (hn : a.length + b.length <= 1000000) :
 Calls Tryz.prog 51 #[va, vb] w fun e w' => ∃ v, e = .returned v /\ w'.ownsRow w.heap.size 123 2 v (a ++ b).length ((a ++ b).flatMap wc) /\ Ext w w' := by
 obtain ⟨i0, z, hi0, hz0, hz1, hz2, hz3⟩ := info_w4
 have HA := qh ha
 have HB := qh hb
 clear ha hb
 go_enter Tryz.func51, Tryz.ntmps51
 go_wp2_with (first
  | ((with_reducible show wpList _ _ _ (⟨some 8, _, _, _, _, _⟩ :: _) _ _); refine wpl_append_row _ rfl _ _ 31 rfl w.heap.size 123 i0 z 2 24 Tryz.underlying31 hi0 hz0 hz1 hz2 hz3 (by omega) (.slice none 0 0) 0 [] (by rfl) (World.ownsRow_nil _ _ _ _) va a.length (a.flatMap wc) 0 (by rfl) HA.out (wc_one a) (by unfold maxLen; omega) (by omega) (Nat.le_refl _) ?_; intro v1 w1 hown1 hgrow1; have hx1 : Ext w w1 := (Ext.refl w).grown hgrow1 (fun k hk => by simp [Value.ownBlock] at hk); have HX1 := qh hx1; have HO1 := qh hown1; clear hx1 hown1 hgrow1)
  | ((with_reducible show wpList _ _ _ (⟨some 11, _, _, _, _, _⟩ :: _) _ _); refine wpl_append_row _ rfl _ _ 31 rfl w.heap.size 123 i0 z 2 24 Tryz.underlying31 hi0 hz0 hz1 hz2 hz3 (by omega) v1 (0 + a.length) ([] ++ a.flatMap wc) (by rfl) HO1.out vb b.length (b.flatMap wc) 0 (by rfl) (HX1.out.keptOwn HB.out) (wc_one b) (by unfold maxLen; omega) (by omega) HX1.out.size ?_; intro v2 w2 hown2 hgrow2; have hx2 : Ext w w2 := HX1.out.grown hgrow2 (fun k hk => (HO1.out.lt k hk).1); have HX2 := qh hx2; have HO2 := qh hown2; clear hx2 hown2 hgrow2)
  | fail)
 go_ret
 refine ⟨_, rfl, ?_, HX2.out⟩
 have h := HO2.out
 rw [List.nil_append, Nat.zero_add, <- List.flatMap_append, <- List.length_append] at h
 exact h
theorem box_facts {v : World} {b : Nat} {a0 a1 a2 a3 a4 a5 : Value} {e : TypeId} (h : v.heap[b]? = some (.cells #[a0, a1, a2, a3, a4, a5] e (0, 0))) :
 v.cell? ⟨b, 0, none⟩ = some a0 /\ v.cell? ⟨b, 1, none⟩ = some a1 /\ v.cell? ⟨b, 2, none⟩ = some a2 /\ v.cell? ⟨b, 3, none⟩ = some a3 /\ v.cell? ⟨b, 4, none⟩ = some a4 /\ v.cell? ⟨b, 5, none⟩ = some a5 /\
 v.frozen? ⟨b, 0, none⟩ = false /\ v.frozen? ⟨b, 1, none⟩ = false /\ v.frozen? ⟨b, 2, none⟩ = false /\ v.frozen? ⟨b, 3, none⟩ = false /\ v.frozen? ⟨b, 4, none⟩ = false /\ v.frozen? ⟨b, 5, none⟩ = false := by
 have h2 : v.heap[b]? = some (.cells [a0, a1, a2, a3, a4, a5].toArray e (0, 0)) := h
 exact ⟨blk_cell h2 0, blk_cell h2 1, blk_cell h2 2, blk_cell h2 3, blk_cell h2 4, blk_cell h2 5, blk_free h2 0, blk_free h2 1, blk_free h2 2, blk_free h2 3, blk_free h2 4, blk_free h2 5⟩
theorem two_boxes (w : World) (A B : Array Value) (e1 e2 : TypeId) {v : World} (hx : Ext ((w.alloc (.cells A e1)).alloc (.cells B e2)) v) :
 v.heap[w.heap.size]? = some (.cells A e1 (0, 0)) /\ v.heap[w.heap.size + 1]? = some (.cells B e2 (0, 0)) := by
 have h1 := heap_alloc_new w (.cells A e1)
 have h2 := heap_alloc_new (w.alloc (.cells A e1)) (.cells B e2)
 rw [World.size_alloc] at h2
 have h3 : ((w.alloc (.cells A e1)).alloc (.cells B e2)).heap[w.heap.size]? = some (.cells A e1 (0, 0)) := by
  have := Below.block (B := (w.alloc (.cells A e1)).heap.size) (Ext.of_alloc (w.alloc (.cells A e1)) (.cells B e2)) w.heap.size (by simp)
  exact this.trans h1
 exact ⟨(Below.block (B := ((w.alloc (.cells A e1)).alloc (.cells B e2)).heap.size) hx _ (by rw [World.size_alloc, World.size_alloc]; omega)).trans h3, (Below.block (B := ((w.alloc (.cells A e1)).alloc (.cells B e2)).heap.size) hx _ (by rw [World.size_alloc, World.size_alloc]; omega)).trans h2⟩
theorem RefAt.rows {w : World} {X : Nat -> Prop} {r r' : Ref4} {sv wv : Value} (h : RefAt w X r sv wv) (h1 : r'.safe = r.safe) (h2 : r'.wait = r.wait) : RefAt w X r' sv wv := ⟨by rw [h1]; exact h.safe, by rw [h2]; exact h.wait, h.sX, h.wX⟩
theorem both {A B : Prop} (hb : B) (ha : B -> A) : A /\ B := ⟨ha hb, hb⟩
theorem size_d4 : (Tryz.prog.info? 33).map (·.size) = some 6 := by kernel_rfl
theorem RowIn.keeps {w w' : World} {F : Nat -> Prop} {v : Value} {l : List (Int × List UInt8)} (h : RowIn w v l) (hm : Mod F w w') (hv : ∀ k, v.ownBlock = some k -> ¬ F k) : RowIn w' v l := ownsRow_mod h hm hv
def R4.flush (r : Ref4) : Ref4 × Int := if (R4.next r).2 then ({ (R4.next r).1 with safe := r.safe ++ r.wait, wait := [] }, 0) else ((R4.next r).1, 3)
def R4.lay (r : Ref4) (i : Int) (s : List UInt8) : Ref4 × Int :=
 if i < 0 ∨ r.n <= i then (r, 1) else if s.length ≠ 512 then (r, 2) else if r.down then (r, 3) else ({ (R4.next r).1 with wait := r.wait ++ [(i, s)] }, if (R4.next r).2 then 0 else 3)
def R4.fuse (r : Ref4) (a : Int) : Ref4 × Int := if a < 0 then (r, 1) else if r.down then (r, 3) else ({ r with armed := true, after := a }, 0)
def R4.cut (r : Ref4) : Ref4 := { r with down := true, armed := false }
def R4.restart (r : Ref4) (ks : List Bool) : Ref4 := ⟨r.n, r.safe ++ D.kept r.wait ks, [], false, false, 0⟩
def RefOut (w w' : World) (X : Nat -> Prop) (r' : Ref4) (c : Int) (e : Ending) : Prop := ∃ sv' wv', e = .returned (.tuple #[rv r' sv' wv', .int .i64 c]) /\ RefAt w' (New X w w') r' sv' wv' /\ Ext w w'
def RefOut1 (w w' : World) (X : Nat -> Prop) (r' : Ref4) (e : Ending) : Prop := ∃ sv' wv', e = .returned (rv r' sv' wv') /\ RefAt w' (New X w w') r' sv' wv' /\ Ext w w'
theorem blk_so {w : World} {b : Nat} {o : Obj} (h : w.heap[b]? = some o) {p : Addr} (hp : b ≠ p.block) (u : Value) : (w.setCell p u).heap[b]? = some o := (Below.heap_setCell w p u b hp).trans h
theorem ref_flush (r : Ref4) (X : Nat -> Prop) (sv wv : Value) (w : World) (h : RefAt w X r sv wv) (hn : r.safe.length + r.wait.length <= 1000000) :
 Calls Tryz.prog 74 #[rv r sv wv] w fun e w' => RefOut w w' X (R4.flush r).1 (R4.flush r).2 e := by
 obtain ⟨q1, q2, q3⟩ := next_rows r
 have hnx := fun w => ref_next r sv wv w h.safe.any h.wait.any
 have H := qh h
 obtain ⟨sa, sn, sc, hsv⟩ := h.safe.any
 obtain ⟨wa, wn, wc', hwv⟩ := h.wait.any
 subst hsv
 subst hwv
 clear h
 unfold R4.flush RefOut
 generalize R4.next r = nx at *
 obtain ⟨⟨n', s', w', ar', dn', af'⟩, ok⟩ := nx
 obtain ⟨n, safe, wait, armed, down, after⟩ := r
 simp only at q1 q2 q3 hn
 subst q1 q2 q3
 unfold rv at *
 simp only at hnx ⊢
 cases ok
 ·simp only [if_neg, Bool.false_eq_true]
  go_enter Tryz.func74, Tryz.ntmps74
  go_wp2_with fail
  refine (hnx _).mono ?_
  rintro e w2 ⟨rfl, hx2⟩
  obtain ⟨hb1, hb2⟩ := two_boxes w _ _ _ _ hx2
  have HXW := qh (((Ext.of_alloc w _).alloc _).trans hx2)
  have HB1 := qh hb1
  have HB2 := qh hb2
  clear hb1 hb2 hx2
  go_wp2_with (first
   | ((with_reducible show wpList _ _ _ (⟨none, Op.store _ (Operand.tmp 1) _, _, _, _, _⟩ :: _) _ _); refine wpl_store_all _ rfl 33 _ _ rfl w.heap.size 33 [_, _, _, _, _, _] HB1.out rfl [.int .i64 n', .slice sa sn sc, .slice wa wn wc', .bool ar', .bool dn', .int .i64 af'] rfl rfl size_d4 (by simp [Value.oneCell']) ?_; intro w3 hbn hmn hszn; have HXw3 := qh (hmn.ext HXW.out (fun k e => by omega)); have HBw3 := qh hbn; have HMw3 := qh hmn; have HBR := qh (blk_mod HB2.out HMw3.out (fun e => by omega)); obtain ⟨c0, c1, c2, c3, c4, c5, f0, f1, f2, f3, f4, f5⟩ := box_facts HBw3.out; clear hbn hmn hszn)
   | ((with_reducible show wpList _ _ _ (⟨none, Op.store _ (Operand.tmp 2) _, _, _, _, _⟩ :: _) _ _); refine wpl_store_all _ rfl 33 _ _ rfl (w.heap.size + 1) 33 [_, _, _, _, _, _] HBR.out rfl [.int .i64 n', .slice sa sn sc, .slice wa wn wc', .bool ar', .bool dn', .int .i64 af'] rfl rfl size_d4 (by simp [Value.oneCell']) ?_; intro w4 hbn hmn hszn; have HXw4 := qh (hmn.ext HXw3.out (fun k e => by omega)); have HBw4 := qh hbn; have HMw4 := qh hmn; obtain ⟨d0, d1, d2, d3, d4, d5, g0, g1, g2, g3, g4, g5⟩ := box_facts HBw4.out; clear hbn hmn hszn)
   | fail)
  refine bodyPost_ret (v := .tuple #[.agg #[.int .i64 n', .slice sa sn sc, .slice wa wn wc', .bool ar', .bool dn', .int .i64 af'], .int .i64 3]) (by simp [results, Tryz.results74, go_sem, d0, d1, d2, d3, d4, d5]) rfl ⟨_, _, rfl, (H.out.all HXw4.out).rows rfl rfl, HXw4.out⟩
 ·simp only [if_true]
  go_enter Tryz.func74, Tryz.ntmps74
  go_wp2_with fail
  refine (hnx _).mono ?_
  rintro e w2 ⟨rfl, hx2⟩
  obtain ⟨hb1, hb2⟩ := two_boxes w _ _ _ _ hx2
  have HXW := qh (((Ext.of_alloc w _).alloc _).trans hx2)
  have HB1 := qh hb1
  have HB2 := qh hb2
  clear hb1 hb2 hx2
  go_wp2_with (first
   | ((with_reducible show wpList _ _ _ (⟨none, Op.store _ (Operand.tmp 1) _, _, _, _, _⟩ :: _) _ _); refine wpl_store_all _ rfl 33 _ _ rfl w.heap.size 33 [_, _, _, _, _, _] HB1.out rfl [.int .i64 n', .slice sa sn sc, .slice wa wn wc', .bool ar', .bool dn', .int .i64 af'] rfl rfl size_d4 (by simp [Value.oneCell']) ?_; intro w3 hbn hmn hszn; have HXw3 := qh (hmn.ext HXW.out (fun k e => by omega)); have HBw3 := qh hbn; have HMw3 := qh hmn; have HBR := qh (blk_mod HB2.out HMw3.out (fun e => by omega)); obtain ⟨c0, c1, c2, c3, c4, c5, f0, f1, f2, f3, f4, f5⟩ := box_facts HBw3.out; clear hbn hmn hszn)
   | fail)
  refine (ref_joined _ _ s' w' _ (H.out.safe.ext HXw3.out) (H.out.wait.ext HXw3.out) hn).mono ?_
  rintro e w4 ⟨v, rfl, hown, hx4⟩
  have hrow : RowIn w4 v (s' ++ w') := ownsRow_base hown (fun k _ => Nat.zero_le k)
  have hvb : ∀ k, v.ownBlock = some k -> w3.heap.size <= k /\ k < w4.heap.size := fun k hk => hown.lt k hk
  have hb3 := blk_mod (F := fun _ => False) HBw3.out (Mod.of_ext hx4) (fun h => h)
  have hb4 := blk_mod (F := fun _ => False) HBR.out (Mod.of_ext hx4) (fun h => h)
  clear c0 c1 c2 c3 c4 c5 f0 f1 f2 f3 f4 f5
  obtain ⟨c0, c1, c2, c3, c4, c5, f0, f1, f2, f3, f4, f5⟩ := box_facts hb3
  obtain ⟨va, vn, vc, rfl⟩ := hrow.any
  have hlt3 : w.heap.size + 1 < w3.heap.size := blk_lt HBR.out
  have HROW := qh hrow
  have HVB := qh hvb
  have HX4 := qh (HXw3.out.trans hx4)
  have HLT := qh hlt3
  have HS3 := qh HXw3.out.size
  have HB4 := qh hb4
  clear hb3 hb4 hown hx4 hrow hvb hlt3 HXw3 HBw3 HMw3 HBR
  go_wp2_with (first
   | ((with_reducible show wpList _ _ _ (⟨none, Op.store _ (Operand.tmp 2) _, _, _, _, _⟩ :: _) _ _); refine wpl_store_all _ rfl 33 _ _ rfl (w.heap.size + 1) 33 [_, _, _, _, _, _] (blk_so (blk_so HB4.out (by show w.heap.size + 1 ≠ w.heap.size; omega) _) (by show w.heap.size + 1 ≠ w.heap.size; omega) _) rfl [.int .i64 n', .slice va vn vc, .slice none 0 0, .bool ar', .bool dn', .int .i64 af'] rfl rfl size_d4 (by simp [Value.oneCell']) ?_; intro w5 hbn hmn hszn; have HXw5 := qh (hmn.ext ((HX4.out.setCell (Nat.le_refl _) _).setCell (Nat.le_refl _) _) (fun k e => by omega)); have HBw5 := qh hbn; have HMw5 := qh hmn; have HROW5 := qh (((HROW.out.keeps (Mod.setCell (F := fun k => k = w.heap.size) w4 ⟨w.heap.size, 1, none⟩ (.slice va vn vc) rfl) (fun k hk e => by have h1 := HVB.out k hk; have h2 := HLT.out; omega)).keeps (Mod.setCell (F := fun k => k = w.heap.size) _ ⟨w.heap.size, 2, none⟩ (.slice none 0 0) rfl) (fun k hk e => by have h1 := HVB.out k hk; have h2 := HLT.out; omega)).keeps HMw5.out (fun k hk e => by have h1 := HVB.out k hk; have h2 := HLT.out; omega)); have hsz5 : w4.heap.size <= w5.heap.size := by { have h1 := HMw5.out.size; simpa using h1 }; obtain ⟨d0, d1, d2, d3, d4, d5, g0, g1, g2, g3, g4, g5⟩ := box_facts HBw5.out; clear hbn hmn hszn)
   | fail)
  have hS3 := HS3.out
  refine bodyPost_ret (v := .tuple #[.agg #[.int .i64 n', .slice va vn vc, .slice none 0 0, .bool ar', .bool dn', .int .i64 af'], .int .i64 0]) (by simp [results, Tryz.results74, go_sem, d0, d1, d2, d3, d4, d5]) rfl ⟨_, _, rfl, ⟨HROW5.out, RowIn.nil _, fun k hk => .inr ?_, fun k hk => ?_⟩, HXw5.out⟩
  ·have h1 := HVB.out k hk
   exact ⟨by omega, by omega⟩
  ·simp [Value.ownBlock] at hk
theorem RowIn.one (w : World) (i : Int) (s : List UInt8) : RowIn (w.alloc (.cells #[.int .i64 i, .string ⟨s.toArray⟩] 123)) (.slice (some ⟨w.heap.size, 0, none⟩) 1 1) [(i, s)] :=
 ⟨rfl, .inr ⟨w.heap.size, 1, _, rfl, Nat.zero_le _, heap_alloc_new w _, Nat.le_refl _, by simp [maxLen], rfl, rfl⟩⟩
theorem ref_lay (r : Ref4) (X : Nat -> Prop) (sv wv : Value) (i : Int) (s : List UInt8) (w : World) (h : RefAt w X r sv wv) (hn : r.wait.length + 1 <= 1000000) (hsl : s.length <= 9223372036854775807) :
 Calls Tryz.prog 99 #[rv r sv wv, .int .i64 i, .string ⟨s.toArray⟩] w fun e w' => RefOut w w' X (R4.lay r i s).1 (R4.lay r i s).2 e := by
 obtain ⟨q1, q2, q3⟩ := next_rows r
 have hnx := fun w => ref_next r sv wv w h.safe.any h.wait.any
 have H := qh h
 obtain ⟨sa, sn, sc, hsv⟩ := h.safe.any
 obtain ⟨wa, wn, wc', hwv⟩ := h.wait.any
 subst hsv
 subst hwv
 clear h
 unfold R4.lay RefOut
 generalize R4.next r = nx at *
 obtain ⟨⟨n', s', w', ar', dn', af'⟩, ok⟩ := nx
 obtain ⟨n, safe, wait, armed, down, after⟩ := r
 simp only at q1 q2 q3 hn
 subst q1 q2 q3
 unfold rv at *
 simp only at hnx ⊢
 by_cases h1 : i < 0 ∨ n' <= i
 ·simp only [if_pos h1]
  clear hnx
  by_cases h2 : i < 0
  ·clear h1
   go_enter Tryz.func99, Tryz.ntmps99
   go_wp2
   refine bodyPost_ret (v := .tuple #[.agg #[.int .i64 n', .slice sa sn sc, .slice wa wn wc', .bool armed, .bool down, .int .i64 after], .int .i64 1]) (by simp [results, Tryz.results99, go_sem]) rfl ⟨_, _, rfl, both ((Ext.of_alloc w _).alloc _) (fun hx => (H.out.all hx).rows rfl rfl)⟩
  ·have h3 : n' <= i := by omega
   clear h1
   go_enter Tryz.func99, Tryz.ntmps99
   go_wp2
   refine bodyPost_ret (v := .tuple #[.agg #[.int .i64 n', .slice sa sn sc, .slice wa wn wc', .bool armed, .bool down, .int .i64 after], .int .i64 1]) (by simp [results, Tryz.results99, go_sem]) rfl ⟨_, _, rfl, both ((Ext.of_alloc w _).alloc _) (fun hx => (H.out.all hx).rows rfl rfl)⟩
 ·simp only [if_neg h1]
  have h2 : ¬ i < 0 := by omega
  have h3 : ¬ n' <= i := by omega
  clear h1
  by_cases h4 : s.length ≠ 512
  ·simp only [if_pos h4]
   have hl : ((s.length : Int) != 512) = true := by rw [bne_iff_ne]; omega
   clear hnx h4
   go_enter Tryz.func99, Tryz.ntmps99
   go_wp2
   refine bodyPost_ret (v := .tuple #[.agg #[.int .i64 n', .slice sa sn sc, .slice wa wn wc', .bool armed, .bool down, .int .i64 after], .int .i64 2]) (by simp [results, Tryz.results99, go_sem]) rfl ⟨_, _, rfl, both ((Ext.of_alloc w _).alloc _) (fun hx => (H.out.all hx).rows rfl rfl)⟩
  ·simp only [if_neg h4]
   have hl : ((s.length : Int) != 512) = false := by rw [bne_eq_false_iff_eq]; omega
   clear h4
   cases down
   ·simp only [if_neg, Bool.false_eq_true]
    go_enter Tryz.func99, Tryz.ntmps99
    go_wp2_with fail
    refine (hnx _).mono ?_
    rintro e w2 ⟨rfl, hx2⟩
    obtain ⟨hb1, hb2⟩ := two_boxes w _ _ _ _ hx2
    have HXW := qh (((Ext.of_alloc w _).alloc _).trans hx2)
    have HB1 := qh hb1
    have HB2 := qh hb2
    clear hb1 hb2 hx2
    go_wp2_with (first
     | ((with_reducible show wpList _ _ _ (⟨none, Op.store _ (Operand.tmp 3) _, _, _, _, _⟩ :: _) _ _); refine wpl_store_all _ rfl 33 _ _ rfl w.heap.size 33 [_, _, _, _, _, _] HB1.out rfl [.int .i64 n', .slice sa sn sc, .slice wa wn wc', .bool ar', .bool dn', .int .i64 af'] rfl rfl size_d4 (by simp [Value.oneCell']) ?_; intro w3 hbn hmn hszn; have HXw3 := qh (hmn.ext HXW.out (fun k e => by omega)); have HBw3 := qh hbn; have HMw3 := qh hmn; have HBR := qh (blk_mod HB2.out HMw3.out (fun e => by omega)); obtain ⟨c0, c1, c2, c3, c4, c5, f0, f1, f2, f3, f4, f5⟩ := box_facts HBw3.out; clear hbn hmn hszn)
     | fail)
    have hx3 := HXw3.out.alloc (.cells #[.int .i64 i, .string ⟨s.toArray⟩] 123)
    refine (ref_joined _ _ w' [(i, s)] _ (H.out.wait.ext hx3) (RowIn.one w3 i s) hn).mono ?_
    rintro e w4 ⟨v, rfl, hown, hx4⟩
    have hx34 := (Ext.of_alloc w3 (.cells #[.int .i64 i, .string ⟨s.toArray⟩] 123)).trans hx4
    have hrow : RowIn w4 v (w' ++ [(i, s)]) := ownsRow_base hown (fun k _ => Nat.zero_le k)
    have hvb : ∀ k, v.ownBlock = some k -> w3.heap.size <= k /\ k < w4.heap.size := fun k hk => by
     have h1 := hown.lt k hk
     have h2 := (Ext.of_alloc w3 (.cells #[.int .i64 i, .string ⟨s.toArray⟩] 123)).size
     omega
    have hb3 := blk_mod (F := fun _ => False) HBw3.out (Mod.of_ext hx34) (fun h => h)
    have hb4 := blk_mod (F := fun _ => False) HBR.out (Mod.of_ext hx34) (fun h => h)
    clear c0 c1 c2 c3 c4 c5 f0 f1 f2 f3 f4 f5
    obtain ⟨c0, c1, c2, c3, c4, c5, f0, f1, f2, f3, f4, f5⟩ := box_facts hb3
    obtain ⟨va, vn, vc, rfl⟩ := hrow.any
    have hlt3 : w.heap.size + 1 < w3.heap.size := blk_lt HBR.out
    have HROW := qh hrow
    have HVB := qh hvb
    have HX4 := qh (HXw3.out.trans hx34)
    have HLT := qh hlt3
    have HS3 := qh HXw3.out.size
    have HB4 := qh hb4
    clear hb3 hb4 hown hx4 hrow hvb hlt3 hx3 hx34 HXw3 HBw3 HMw3 HBR
    cases ok
    ·simp only [if_neg, Bool.false_eq_true]
     go_wp2_with (first
      | ((with_reducible show wpList _ _ _ (⟨none, Op.store _ (Operand.tmp 6) _, _, _, _, _⟩ :: _) _ _); refine wpl_store_all _ rfl 33 _ _ rfl (w.heap.size + 1) 33 [_, _, _, _, _, _] (blk_so HB4.out (by show w.heap.size + 1 ≠ w.heap.size; omega) _) rfl [.int .i64 n', .slice sa sn sc, .slice va vn vc, .bool ar', .bool dn', .int .i64 af'] rfl rfl size_d4 (by simp [Value.oneCell']) ?_; intro w5 hbn hmn hszn; have HXw5 := qh (hmn.ext (HX4.out.setCell (Nat.le_refl _) _) (fun k e => by omega)); have HBw5 := qh hbn; have HMw5 := qh hmn; have HROW5 := qh ((HROW.out.keeps (Mod.setCell (F := fun k => k = w.heap.size) w4 ⟨w.heap.size, 2, none⟩ (.slice va vn vc) rfl) (fun k hk e => by have h1 := HVB.out k hk; have h2 := HLT.out; omega)).keeps HMw5.out (fun k hk e => by have h1 := HVB.out k hk; have h2 := HLT.out; omega)); have hsz5 : w4.heap.size <= w5.heap.size := by { have h1 := HMw5.out.size; simpa using h1 }; obtain ⟨d0, d1, d2, d3, d4, d5, g0, g1, g2, g3, g4, g5⟩ := box_facts HBw5.out; clear hbn hmn hszn)
      | fail)
     have hS3 := HS3.out
     refine bodyPost_ret (v := .tuple #[.agg #[.int .i64 n', .slice sa sn sc, .slice va vn vc, .bool ar', .bool dn', .int .i64 af'], .int .i64 3]) (by simp [results, Tryz.results99, go_sem, d0, d1, d2, d3, d4, d5]) rfl ⟨_, _, rfl, ⟨H.out.safe.ext HXw5.out, HROW5.out, fun k hk => .inl (H.out.sX k hk), fun k hk => .inr ?_⟩, HXw5.out⟩
     have h1 := HVB.out k hk
     exact ⟨by omega, by omega⟩
    ·simp only [if_true]
     go_wp2_with (first
      | ((with_reducible show wpList _ _ _ (⟨none, Op.store _ (Operand.tmp 6) _, _, _, _, _⟩ :: _) _ _); refine wpl_store_all _ rfl 33 _ _ rfl (w.heap.size + 1) 33 [_, _, _, _, _, _] (blk_so HB4.out (by show w.heap.size + 1 ≠ w.heap.size; omega) _) rfl [.int .i64 n', .slice sa sn sc, .slice va vn vc, .bool ar', .bool dn', .int .i64 af'] rfl rfl size_d4 (by simp [Value.oneCell']) ?_; intro w5 hbn hmn hszn; have HXw5 := qh (hmn.ext (HX4.out.setCell (Nat.le_refl _) _) (fun k e => by omega)); have HBw5 := qh hbn; have HMw5 := qh hmn; have HROW5 := qh ((HROW.out.keeps (Mod.setCell (F := fun k => k = w.heap.size) w4 ⟨w.heap.size, 2, none⟩ (.slice va vn vc) rfl) (fun k hk e => by have h1 := HVB.out k hk; have h2 := HLT.out; omega)).keeps HMw5.out (fun k hk e => by have h1 := HVB.out k hk; have h2 := HLT.out; omega)); have hsz5 : w4.heap.size <= w5.heap.size := by { have h1 := HMw5.out.size; simpa using h1 }; obtain ⟨d0, d1, d2, d3, d4, d5, g0, g1, g2, g3, g4, g5⟩ := box_facts HBw5.out; clear hbn hmn hszn)
      | fail)
     have hS3 := HS3.out
     refine bodyPost_ret (v := .tuple #[.agg #[.int .i64 n', .slice sa sn sc, .slice va vn vc, .bool ar', .bool dn', .int .i64 af'], .int .i64 0]) (by simp [results, Tryz.results99, go_sem, d0, d1, d2, d3, d4, d5]) rfl ⟨_, _, rfl, ⟨H.out.safe.ext HXw5.out, HROW5.out, fun k hk => .inl (H.out.sX k hk), fun k hk => .inr ?_⟩, HXw5.out⟩
     have h1 := HVB.out k hk
     exact ⟨by omega, by omega⟩
   ·simp only [if_true]
    clear hnx
    go_enter Tryz.func99, Tryz.ntmps99
    go_wp2
    refine bodyPost_ret (v := .tuple #[.agg #[.int .i64 n', .slice sa sn sc, .slice wa wn wc', .bool armed, .bool true, .int .i64 after], .int .i64 3]) (by simp [results, Tryz.results99, go_sem]) rfl ⟨_, _, rfl, both ((Ext.of_alloc w _).alloc _) (fun hx => (H.out.all hx).rows rfl rfl)⟩
theorem ref_fuse (r : Ref4) (X : Nat -> Prop) (sv wv : Value) (a : Int) (w : World) (h : RefAt w X r sv wv) :
 Calls Tryz.prog 14 #[rv r sv wv, .int .i64 a] w fun e w' => RefOut w w' X (R4.fuse r a).1 (R4.fuse r a).2 e := by
 have H := qh h
 obtain ⟨sa, sn, sc, hsv⟩ := h.safe.any
 obtain ⟨wa, wn, wc', hwv⟩ := h.wait.any
 subst hsv
 subst hwv
 clear h
 unfold R4.fuse RefOut
 obtain ⟨n, safe, wait, armed, down, after⟩ := r
 unfold rv
 simp only
 by_cases h1 : a < 0
 ·simp only [if_pos h1]
  go_enter Tryz.func14, Tryz.ntmps14
  go_wp2
  refine bodyPost_ret (v := .tuple #[.agg #[.int .i64 n, .slice sa sn sc, .slice wa wn wc', .bool armed, .bool down, .int .i64 after], .int .i64 1]) (by simp [results, Tryz.results14, go_sem]) rfl ⟨_, _, rfl, both ((Ext.of_alloc w _).alloc _) (fun hx => (H.out.all hx).rows rfl rfl)⟩
 ·simp only [if_neg h1]
  cases down
  ·simp only [if_neg, Bool.false_eq_true]
   go_enter Tryz.func14, Tryz.ntmps14
   go_wp2
   refine bodyPost_ret (v := .tuple #[.agg #[.int .i64 n, .slice sa sn sc, .slice wa wn wc', .bool true, .bool false, .int .i64 a], .int .i64 0]) (by simp [results, Tryz.results14, go_sem]) rfl ⟨_, _, rfl, both ((Ext.of_alloc w _).alloc _) (fun hx => (H.out.all hx).rows rfl rfl)⟩
  ·simp only [if_true]
   go_enter Tryz.func14, Tryz.ntmps14
   go_wp2
   refine bodyPost_ret (v := .tuple #[.agg #[.int .i64 n, .slice sa sn sc, .slice wa wn wc', .bool armed, .bool true, .int .i64 after], .int .i64 3]) (by simp [results, Tryz.results14, go_sem]) rfl ⟨_, _, rfl, both ((Ext.of_alloc w _).alloc _) (fun hx => (H.out.all hx).rows rfl rfl)⟩
end Go.Proofs.YtnjfioikpajhlaaGreat
namespace Go.Proofs.YtnjfioikpajhlaaGreat
open Go.RowKit
theorem D.kept_nil (ks : List Bool) : D.kept [] ks = [] := by cases ks <;> rfl
theorem kept_len : ∀ (l : List (Int × List UInt8)) (ks : List Bool) (k : Nat), (D.kept (l.take k) ks).length <= l.length
 | [], ks, k => by simp [D.kept_nil]
 | x :: r, ks, 0 => by simp [D.kept_nil]
 | x :: r, [], k + 1 => by simp [D.kept]
 | x :: r, b :: s, k + 1 => by
  have ih := kept_len r s k
  rw [List.take_succ_cons, D.kept]
  cases b
  ·simp; omega
  ·simp; omega
theorem ref_restart (r : Ref4) (X : Nat -> Prop) (sv wv kv : Value) (ks : List Bool) (w : World) (h : RefAt w X r sv wv) (hk : Reads w kv (ks.map Value.bool)) (hn : r.safe.length + r.wait.length <= 1000000) :
 Calls Tryz.prog 12 #[rv r sv wv, kv] w fun e w' => RefOut1 w w' X (R4.restart r ks) e := by
 obtain ⟨i0, z, hi0, hz0, hz1, hz2, hz3⟩ := info_w4
 have hksl := hk.length_le
 obtain ⟨ka, kc, rfl⟩ := hk.shape
 rw [List.length_map] at *
 have HK := qh hk
 clear hk
 unfold R4.restart RefOut1
 obtain ⟨n, safe, wait, armed, down, after⟩ := r
 simp only at hn
 have HS := qh h.safe
 have HW := qh h.wait
 have HSX := qh h.sX
 have hwl := h.wait.len
 obtain ⟨sa, sn, sc, hsv⟩ := h.safe.any
 obtain ⟨wa, wc', hwv⟩ := h.wait.shape
 subst hsv
 subst hwv
 clear h
 simp only at hwl HS HW HSX
 unfold rv
 simp only
 have hx1 := (Ext.of_alloc w (.cells #[.int .i64 n, .slice sa sn sc, .slice wa wait.length wc', .bool armed, .bool down, .int .i64 after] 33)).alloc (.cells #[.int .i64 0, .slice none 0 0, .slice none 0 0, .bool false, .bool false, .int .i64 0] 33)
 obtain ⟨hb1, hb2⟩ := two_boxes w #[.int .i64 n, .slice sa sn sc, .slice wa wait.length wc', .bool armed, .bool down, .int .i64 after] #[.int .i64 0, .slice none 0 0, .slice none 0 0, .bool false, .bool false, .int .i64 0] 33 33 (Ext.refl _)
 have HX1 := qh hx1
 have HB1 := qh hb1
 have HB2 := qh hb2
 clear hx1 hb1 hb2
 go_enter Tryz.func12, Tryz.ntmps12
 go_wp2_with fail
 generalize (w.alloc (.cells #[.int .i64 n, .slice sa sn sc, .slice wa wait.length wc', .bool armed, .bool down, .int .i64 after] 33)).alloc (.cells #[.int .i64 0, .slice none 0 0, .slice none 0 0, .bool false, .bool false, .int .i64 0] 33) = w1 at *
 go_loopw [5, 6] (fun ov iv wr => ∃ k : Nat, k <= wait.length /\ iv = .int .i64 k /\ Hid (wr.ownsRow w1.heap.size 123 2 ov (D.kept (wait.take k) ks).length ((D.kept (wait.take k) ks).flatMap wc)) /\ Hid (Ext w1 wr)) (fun _ iv _ => wait.length - (intOf iv).toNat)
 case atStart => exact ⟨0, by omega, rfl, by simp only [List.take_zero, D.kept_nil]; exact World.ownsRow_nil _ _ _ _, Ext.refl w1⟩
 case round =>
  obtain ⟨k, hk, rfl, hown, hx⟩ := hrel
  have hbk := blk_mod (F := fun _ => False) HB1.out (Mod.of_ext hx.out) (fun h => h)
  obtain ⟨c0, c1, c2, c3, c4, c5, f0, f1, f2, f3, f4, f5⟩ := box_facts hbk
  clear hbk
  have hkl : (D.kept (wait.take k) ks).length <= wait.length := kept_len wait ks k
  by_cases hlt : k < wait.length
  ·have hlti : (k : Int) < (wait.length : Int) := by omega
   have hkt := D.kept_take wait ks k hlt
   obtain ⟨g, cp, heq, _, _, hcp, hcm, hrg⟩ := own_range (HW.out.ext (HX1.out.trans hx.out)) (fun x _ => wc_len x) (by decide) k hlt
   simp only [Value.slice.injEq] at heq
   obtain ⟨rfl, _, rfl⟩ := heq
   have hr := hrg k hlt
   have hck : wr.cell? ⟨g, k * 2, none⟩ = some (.int .i64 wait[k].1) := hr 0 _ rfl
   have hcs : wr.cell? ⟨g, k * 2 + 1, none⟩ = some (strV wait[k].2) := hr 1 _ rfl
   unfold strV at hcs
   generalize wait[k] = x at *
   obtain ⟨xi, xs⟩ := x
   simp only at hck hcs
   have HKT := qh hkt
   clear hrg hr hkt
   have hs1 := HX1.out.size
   have hs2 := hx.out.size
   by_cases hkk : ks.getD k false = true
   ·have hkl2 : k < ks.length := by
     rcases Nat.lt_or_ge k ks.length with h' | h'
     ·exact h'
     ·rw [List.getD_eq_getElem?_getD, List.getElem?_eq_none h'] at hkk; cases hkk
    have hkl2i : (k : Int) < (ks.length : Int) := by omega
    obtain ⟨b2, o2, rfl, hcq⟩ := (HK.out.ext (HX1.out.trans hx.out)).at k (by rw [List.length_map]; exact hkl2)
    rw [List.getElem_map] at hcq
    have hkt : ks[k] = true := by rw [List.getD_eq_getElem?_getD, List.getElem?_eq_getElem hkl2] at hkk; exact hkk
    rw [hkt] at hcq
    have hkt2 := HKT.out
    rw [if_pos hkk] at hkt2
    have HK2 := qh hkt2
    have HRO := qh (RowIn.one wr xi xs)
    have HO2 := qh ((Ext.of_alloc wr (.cells #[.int .i64 xi, .string ⟨xs.toArray⟩] 123)).keptOwn hown.out)
    have HXR := qh (hx.out.alloc (.cells #[.int .i64 xi, .string ⟨xs.toArray⟩] 123))
    clear hkk hkt hkt2 hown hx
    go_wp2_with (first
     | ((with_reducible show wpList _ _ _ (⟨some 31, _, _, _, _, _⟩ :: _) _ _); refine wpl_append_row _ rfl _ _ 31 rfl w1.heap.size 123 i0 z 2 24 Tryz.underlying31 hi0 hz0 hz1 hz2 hz3 (by omega) _ _ _ (by rfl) HO2.out (.slice (some ⟨wr.heap.size, 0, none⟩) 1 1) 1 ([(xi, xs)].flatMap wc) 0 (by rfl) HRO.out (wc_one [(xi, xs)]) (by unfold maxLen; omega) (by omega) HXR.out.size ?_; intro v1 w3 hown3 hgrow3; have HX3 := qh (HXR.out.grown hgrow3 (fun q hq => (HO2.out.lt q hq).1)); have HO3 := qh hown3; clear hown3 hgrow3)
     | fail)
    go_roundw
    case rel =>
     refine ⟨k + 1, by omega, by go_num, ?_, HX3⟩
     have h := HO3.out
     rw [<- List.flatMap_append] at h
     rw [HK2.out, List.length_append]
     exact h
    case measure => (simp [intOf]; try omega)
   ·have hkt2 := HKT.out
    rw [if_neg hkk, List.append_nil] at hkt2
    have HO3 := qh (show wr.ownsRow w1.heap.size 123 2 u5 (D.kept (wait.take (k + 1)) ks).length ((D.kept (wait.take (k + 1)) ks).flatMap wc) by rw [hkt2]; exact hown.out)
    by_cases hkl2 : k < ks.length
    ·have hkl2i : (k : Int) < (ks.length : Int) := by omega
     obtain ⟨b2, o2, rfl, hcq⟩ := (HK.out.ext (HX1.out.trans hx.out)).at k (by rw [List.length_map]; exact hkl2)
     rw [List.getElem_map] at hcq
     have hkt : ks[k] = false := by
      rw [List.getD_eq_getElem?_getD, List.getElem?_eq_getElem hkl2] at hkk
      simpa using hkk
     rw [hkt] at hcq
     clear hkk hkt hkt2 hown HKT
     go_wp2
     go_roundw
     case rel => exact ⟨k + 1, by omega, by go_num, HO3, hx⟩
     case measure => (simp [intOf]; try omega)
    ·have hkl2i : ¬ (k : Int) < (ks.length : Int) := by omega
     clear hkk hkt2 hown HKT
     go_wp2
     go_roundw
     case rel => exact ⟨k + 1, by omega, by go_num, HO3, hx⟩
     case measure => (simp [intOf]; try omega)
  ·obtain rfl : k = wait.length := by omega
   have hor := hown.out
   rw [List.take_of_length_le (Nat.le_refl _)] at hor hkl
   have HOR := qh (show RowIn wr u5 (D.kept wait ks) from ownsRow_base hor (fun k _ => Nat.zero_le k))
   have hlen : safe.length + (D.kept wait ks).length <= 1000000 := by omega
   have HBR := qh (blk_mod (F := fun _ => False) HB2.out (Mod.of_ext hx.out) (fun h => h))
   have HXA := qh (HX1.out.trans hx.out)
   have hSr := HXA.out.size
   have hb2lt : w.heap.size + 1 < wr.heap.size := blk_lt HBR.out
   replace HS := qh (HS.out.ext HXA.out)
   clear hor hown hx
   go_wp2_with fail
   have hHeld : Ext wr wr.drew := Ext.of_drew wr
   have hHeld0 := hHeld
   refine wp_region_C (fun w' => Ext wr w') 7 (by kernel_rfl) ?_
   (refine aC [1, 6, 7] (i := 0) (oi := ⟨some 32, _, _, _, _, _⟩) (v := ?_) rfl ?_ hHeld ?_; rotate_left; (focus (intro w hSw; (skip); go_simp; first | done | with_reducible rfl)); try simp only [Act.put, zB, zC, zD])
   (refine aC [6, 7] (i := 1) (oi := ⟨some 33, _, _, _, _, _⟩) (v := ?_) rfl ?_ hHeld ?_; rotate_left; (focus (intro w hSw; (have q := hSw.cell c0); go_simp; first | done | with_reducible rfl)); try simp only [Act.put, zB, zC, zD])
   (refine aC [3, 5, 6, 7] (i := 2) (oi := ⟨some 34, _, _, _, _, _⟩) (v := ?_) rfl ?_ hHeld ?_; rotate_left; (focus (intro w hSw; (skip); go_simp; first | done | with_reducible rfl)); try simp only [Act.put, zB, zC, zD])
   (refine aC [5, 6, 7] (i := 3) (oi := ⟨some 35, _, _, _, _, _⟩) (v := ?_) rfl ?_ hHeld ?_; rotate_left; (focus (intro w hSw; (have q := hSw.cell c1); go_simp; first | done | with_reducible rfl)); try simp only [Act.put, zB, zC, zD])
   (refine aC [5, 6, 7] (i := 4) (oi := ⟨some 36, _, _, _, _, _⟩) (v := ?_) rfl ?_ hHeld ?_; rotate_left; (focus (intro w hSw; (skip); go_simp; first | done | with_reducible rfl)); try simp only [Act.put, zB, zC, zD])
   refine wpAnyC_one (i := 5) (oi := ⟨some 37, _, _, _, _, _⟩) rfl (by kernel_rfl) (by decide) (fun K hK => ?_)
   rw [if_pos (by rfl)]
   go_simp
   refine (ref_joined _ _ safe (D.kept wait ks) _ (HS.out.ext hHeld) (HOR.out.ext hHeld) hlen).mono ?_
   rintro e w4 ⟨v, rfl, hown, hx4⟩
   refine hK.out _ _ (hHeld.trans hx4) ?_
   have hHeld2 := hHeld.trans hx4
   clear hHeld
   have hHeld := hHeld2
   clear hHeld2
   have hrow : RowIn w4 v (safe ++ D.kept wait ks) := ownsRow_base hown (fun k _ => Nat.zero_le k)
   have hvb : ∀ k, v.ownBlock = some k -> wr.heap.size <= k /\ k < w4.heap.size := fun k hk => ⟨Nat.le_trans hHeld0.size (hown.lt k hk).1, (hown.lt k hk).2⟩
   obtain ⟨va, vn, vc, rfl⟩ := hrow.any
   clear hK K
   try simp only [Act.put, zB, zC, zD]
   (refine aC [7] (i := 6) (oi := ⟨some 38, _, _, _, _, _⟩) (v := ?_) rfl ?_ hHeld ?_; rotate_left; (focus (intro w hSw; (skip); go_simp; first | done | with_reducible rfl)); try simp only [Act.put, zB, zC, zD])
   have hb4 := blk_mod (F := fun _ => False) HBR.out (Mod.of_ext hHeld) (fun h => h)
   obtain ⟨d0, d1, d2, d3, d4, d5, g0, g1, g2, g3, g4, g5⟩ := box_facts hb4
   refine wpAnyC_c (oi := ⟨none, _, _, _, _, _⟩) rfl (by kernel_rfl) (fun K hK => ?_)
   rw [if_pos (by rfl)]
   go_simp
   refine hK.out _ _ ?_
   clear hK K
   try simp only [Act.put, zB, zC, zD]
   refine wpAny_done (by kernel_rfl) ?_ _
   have hb5 := blk_setCells (w.heap.size + 1) 33 [.int .i64 n, .slice va vn vc, .slice none 0 0, .bool false, .bool false, .int .i64 0] 0 w4 _ hb4 (by simp)
   have hm5 := mod_setCells (fun k => k = w.heap.size + 1) w4 (w.heap.size + 1) 0 [.int .i64 n, .slice va vn vc, .slice none 0 0, .bool false, .bool false, .int .i64 0] rfl
   have hsz5 := size_setCells (w.heap.size + 1) [.int .i64 n, .slice va vn vc, .slice none 0 0, .bool false, .bool false, .int .i64 0] 0 w4
   show Exit.then _ _ Exit.normal _ (w4.setCells (w.heap.size + 1) 0 [.int .i64 n, .slice va vn vc, .slice none 0 0, .bool false, .bool false, .int .i64 0])
   generalize w4.setCells (w.heap.size + 1) 0 [.int .i64 n, .slice va vn vc, .slice none 0 0, .bool false, .bool false, .int .i64 0] = w5 at *
   have HB5 := qh hb5
   have HX5 := qh (hm5.ext (HXA.out.trans hHeld) (fun k e => by omega))
   have HROW5 := qh (hrow.keeps hm5 (fun k hk e => by have h1 := hvb k hk; omega))
   clear d0 d1 d2 d3 d4 d5 g0 g1 g2 g3 g4 g5 hb5 hm5 hb4 c0 c1 c2 c3 c4 c5 f0 f1 f2 f3 f4 f5
   obtain ⟨d0, d1, d2, d3, d4, d5, g0, g1, g2, g3, g4, g5⟩ := box_facts HB5.out
   go_wp2
   refine bodyPost_ret (v := .agg #[.int .i64 n, .slice va vn vc, .slice none 0 0, .bool false, .bool false, .int .i64 0]) (by simp [results, Tryz.results12, go_sem, d0, d1, d2, d3, d4, d5]) rfl ⟨_, _, rfl, ⟨HROW5.out, RowIn.nil _, fun k hk => .inr ?_, fun k hk => ?_⟩, HX5.out⟩
   ·have h1 := hvb k hk
    exact ⟨by omega, by omega⟩
   ·simp [Value.ownBlock] at hk
end Go.Proofs.YtnjfioikpajhlaaGreat
namespace Go.Proofs.YtnjfioikpajhlaaGreat
open Go.RowKit
theorem D.over_append (f : Int -> Option (List UInt8)) (A B : List (Int × List UInt8)) : D.over f (A ++ B) = D.over (D.over f A) B := by unfold D.over; rw [List.foldl_append]
structure Rel (d : D.Dsk) (r : Ref4) : Prop where
 n : d.n = r.n
 down : d.down = r.down
 armed : d.armed = r.armed
 aft : r.armed = true -> d.after = r.after
 wait : d.wait = r.wait
 safe : d.safe = D.over (fun _ => none) r.safe
theorem over_look (l : List (Int × List UInt8)) (i : Int) : D.over (fun _ => none) l i = D.look l i := by
 have key : ∀ (k : Nat), k <= l.length -> D.over (fun _ => none) (l.take k) i = D.look (l.take k) i := by
  intro k
  induction k with
  | zero => intro _; rfl
  | succ k ih =>
   intro h
   rw [D.over_take _ l k (by omega), D.look_take l k (by omega) i]
   show (if i = l[k].1 then some l[k].2 else D.over (fun _ => none) (l.take k) i) = _
   by_cases he : l[k].1 = i
   ·rw [if_pos he, if_pos he.symm]
   ·rw [if_neg he, if_neg (fun e => he e.symm)]
    exact ih (by omega)
 have h := key l.length (Nat.le_refl _)
 rwa [List.take_length] at h
theorem Rel.sector {d : D.Dsk} {r : Ref4} (h : Rel d r) (i : Int) : D.sector d i = R4.sector r i := by
 unfold D.sector R4.sector
 rw [h.wait, h.safe, over_look]
theorem Rel.readE {d : D.Dsk} {r : Ref4} (h : Rel d r) (i : Int) : D.readE d i = R4.readE r i := by
 unfold D.readE R4.readE
 rw [h.n, h.down]
theorem Rel.readB {d : D.Dsk} {r : Ref4} (h : Rel d r) (i : Int) : D.readB d i = R4.readB r i := by
 unfold D.readB R4.readB
 rw [h.n, h.down, h.sector]
theorem Rel.fresh (n : Int) : Rel (D.fresh n) ⟨n, [], [], false, false, 0⟩ := ⟨rfl, rfl, rfl, (fun h => by cases h), rfl, rfl⟩
theorem Rel.next {d : D.Dsk} {r : Ref4} (h : Rel d r) : Rel (D.goes d) (R4.next r).1 /\ D.done d = (R4.next r).2 := by
 obtain ⟨n, safe, wait, down, armed, after⟩ := d
 obtain ⟨n', safe', wait', armed', down', after'⟩ := r
 obtain ⟨h1, h2, h3, h4, h5, h6⟩ := h
 simp only at h1 h2 h3 h4 h5 h6
 subst h1 h2 h3 h5 h6
 unfold D.goes D.done R4.next
 cases down
 ·cases armed
  ·exact ⟨⟨rfl, rfl, rfl, (fun h => by cases h), rfl, rfl⟩, rfl⟩
  ·obtain rfl := h4 rfl
   by_cases h0 : after = 0
   ·subst h0
    exact ⟨⟨rfl, rfl, rfl, (fun h => by cases h), rfl, rfl⟩, rfl⟩
   ·have hb : (after == 0) = false := beq_eq_false_iff_ne.2 h0
    simp only [hb, Bool.and_false, Bool.false_eq_true, if_false, if_true]
    exact ⟨⟨rfl, rfl, rfl, fun _ => rfl, rfl, rfl⟩, rfl⟩
 ·exact ⟨⟨rfl, rfl, rfl, h4, rfl, rfl⟩, rfl⟩
theorem Rel.lay {d : D.Dsk} {r : Ref4} (h : Rel d r) (i : Int) (s : List UInt8) : Rel (D.write d i s) (R4.lay r i s).1 /\ D.writeE d i s = (R4.lay r i s).2 := by
 obtain ⟨hn, hd⟩ := h.next
 unfold D.write D.writeE R4.lay
 rw [h.n]
 by_cases h1 : i < 0 ∨ r.n <= i
 ·rw [if_pos h1, if_pos h1, if_pos h1]; exact ⟨h, rfl⟩
 ·rw [if_neg h1, if_neg h1, if_neg h1]
  by_cases h2 : s.length ≠ 512
  ·rw [if_pos h2, if_pos h2, if_pos h2]; exact ⟨h, rfl⟩
  ·rw [if_neg h2, if_neg h2, if_neg h2, h.down]
   by_cases h3 : r.down = true
   ·rw [if_pos h3, if_pos h3, if_pos h3]; exact ⟨h, rfl⟩
   ·rw [if_neg h3, if_neg h3, if_neg h3, hd]
    refine ⟨⟨hn.n, hn.down, hn.armed, hn.aft, by show d.wait ++ _ = r.wait ++ _; rw [h.wait], hn.safe⟩, rfl⟩
theorem Rel.flush {d : D.Dsk} {r : Ref4} (h : Rel d r) : Rel (D.flush d) (R4.flush r).1 /\ D.flushE d = (R4.flush r).2 := by
 obtain ⟨hn, hd⟩ := h.next
 unfold D.flush D.flushE R4.flush
 rw [hd]
 cases (R4.next r).2
 ·exact ⟨hn, rfl⟩
 ·refine ⟨⟨hn.n, hn.down, hn.armed, hn.aft, rfl, ?_⟩, rfl⟩
  show D.over d.safe d.wait = D.over _ (r.safe ++ r.wait)
  rw [D.over_append, h.safe, h.wait]
theorem Rel.fuse {d : D.Dsk} {r : Ref4} (h : Rel d r) (a : Int) : Rel (D.fuse d a) (R4.fuse r a).1 /\ D.fuseE d a = (R4.fuse r a).2 := by
 unfold D.fuse D.fuseE R4.fuse
 by_cases h1 : a < 0
 ·rw [if_pos h1, if_pos h1, if_pos h1]; exact ⟨h, rfl⟩
 ·rw [if_neg h1, if_neg h1, if_neg h1, h.down]
  by_cases h3 : r.down = true
  ·rw [if_pos h3, if_pos h3, if_pos h3]; exact ⟨h, rfl⟩
  ·rw [if_neg h3, if_neg h3, if_neg h3]
   exact ⟨⟨h.n, rfl, rfl, fun _ => rfl, h.wait, h.safe⟩, rfl⟩
theorem Rel.cut {d : D.Dsk} {r : Ref4} (h : Rel d r) : Rel (D.cut d) (R4.cut r) := ⟨h.n, rfl, rfl, (fun h => by cases h), h.wait, h.safe⟩
theorem Rel.restart {d : D.Dsk} {r : Ref4} (h : Rel d r) (ks : List Bool) : Rel (D.restart d ks) (R4.restart r ks) := by
 refine ⟨h.n, rfl, rfl, (fun h => by cases h), rfl, ?_⟩
 show D.over d.safe (D.kept d.wait ks) = D.over _ (r.safe ++ D.kept r.wait ks)
 rw [D.over_append, h.safe, h.wait]
def R4.len (r : Ref4) : Nat := r.safe.length + r.wait.length
theorem lay_len (r : Ref4) (i : Int) (s : List UInt8) : R4.len (R4.lay r i s).1 <= R4.len r + 1 := by
 obtain ⟨h1, h2, _⟩ := next_rows r
 unfold R4.lay R4.len
 split
 ·show r.safe.length + r.wait.length <= _; omega
 ·split
  ·show r.safe.length + r.wait.length <= _; omega
  ·split
   ·show r.safe.length + r.wait.length <= _; omega
   ·show (R4.next r).1.safe.length + (r.wait ++ [(i, s)]).length <= _
    rw [h1]; simp; omega
theorem flush_len (r : Ref4) : R4.len (R4.flush r).1 <= R4.len r := by
 obtain ⟨h1, h2, _⟩ := next_rows r
 unfold R4.flush R4.len
 split
 ·show (r.safe ++ r.wait).length + 0 <= _; simp
 ·show (R4.next r).1.safe.length + (R4.next r).1.wait.length <= _
  rw [h1, h2]; omega
theorem fuse_len (r : Ref4) (a : Int) : R4.len (R4.fuse r a).1 <= R4.len r := by
 unfold R4.fuse
 split
 ·exact Nat.le_refl _
 ·split <;> exact Nat.le_refl _
theorem restart_len (r : Ref4) (ks : List Bool) : R4.len (R4.restart r ks) <= R4.len r := by
 have h := kept_len r.wait ks r.wait.length
 rw [List.take_length] at h
 show (r.safe ++ D.kept r.wait ks).length + 0 <= r.safe.length + r.wait.length
 simp; omega
end Go.Proofs.YtnjfioikpajhlaaGreat
namespace Go.Proofs.YtnjfioikpajhlaaGreat
open Go.RowKit
theorem one_box (w : World) (A : Array Value) (e : TypeId) {v : World} (hx : Ext (w.alloc (.cells A e)) v) : v.heap[w.heap.size]? = some (.cells A e (0, 0)) :=
 (Below.block (B := (w.alloc (.cells A e)).heap.size) hx _ (by rw [World.size_alloc]; omega)).trans (heap_alloc_new w (.cells A e))
theorem u8_up (x : UInt8) : Value.int .u8 (((x.toNat : Int) + 1) % 256) = byteVal (x + 1) := by
 unfold byteVal
 rw [UInt8.toNat_add]
 rfl
theorem reads4 {w0 w : World} {X : Nat -> Prop} {p : Nat} {d : D.Dsk} {r : Ref4} {sv wv : Value} (h : Held w0 w X p d) (hr : RefAt w X r sv wv) (hrel4 : Rel d r) (i : Int) :
 Calls Tryz.prog 54 #[.pointer (some ⟨p, 0, none⟩), rv r sv wv, .int .i64 i] w fun e w' => e = .returned (.bool true) /\ Ext w w' := by
 have hE := hrel4.readE i
 have hB := hrel4.readB i
 have hrd := fun w (h : Held w0 w X p d) => held_read h i
 unfold Red at hrd
 rw [hE, hB] at hrd
 have href := fun w (h : RefAt w X r sv wv) => ref_read r sv wv i w h.safe h.wait
 unfold readV at href
 generalize R4.readB r i = B at *
 generalize R4.readE r i = E at *
 clear hE hB hrel4
 have HD := qh h
 have HR := qh hr
 obtain ⟨sa, sn, sc, rfl⟩ := hr.safe.any
 obtain ⟨wa, wn, wc', rfl⟩ := hr.wait.any
 obtain ⟨n, safe, wait, armed, down, after⟩ := r
 unfold rv at *
 simp only at href ⊢
 clear h hr
 have hx1 := Ext.of_alloc w (.cells #[.int .i64 n, .slice sa sn sc, .slice wa wn wc', .bool armed, .bool down, .int .i64 after] 33)
 have HX1 := qh hx1
 have HRD := qh (hrd _ (HD.out.after_ext hx1))
 clear hx1 hrd
 go_enter Tryz.func54, Tryz.ntmps54
 go_wp2_with fail
 refine HRD.out.mono ?_
 clear HRD
 rintro e w2 ⟨v, rfl, hown, hx2⟩
 obtain ⟨c0, c1, c2, c3, c4, c5, _⟩ := box_facts (one_box w _ _ hx2)
 have HX2 := qh (HX1.out.trans hx2)
 have HO := qh (ownsRow_base hown (base' := w.heap.size) (fun k hk => Nat.le_trans HX1.out.size (hown.lt k hk).1))
 clear hown hx2 HX1
 have HRF := qh (href w2 (HR.out.ext HX2.out))
 clear href
 go_wp2_with fail
 refine HRF.out.mono ?_
 clear HRF c0 c1 c2 c3 c4 c5
 rintro e w3 ⟨rfl, hx3⟩
 have HX3 := qh (HX2.out.trans hx3)
 have HO3 := qh (hx3.keptOwn HO.out)
 clear hx3 HO
 have hcv := (Bs.of_own HO3.out).toString (P := Tryz.prog) 56 9 5 Tryz.underlying56 Tryz.underlying5 Tryz.underlying9
 unfold strV
 have hBl : B.length <= 9223372036854775807 := (Bs.of_own HO3.out).length_le
 rcases own_shape HO3.out with ⟨oa, oc, rfl, h0⟩ | ⟨g, oc, rfl, hp, hg⟩
 ·have hBe : B = [] := List.eq_nil_of_length_eq_zero h0
  subst hBe
  clear h0
  go_wp2
  refine wp_loop_rounds 1 ?_
  rw [rounds_succ]
  go_wp2
  go_ret
  exact ⟨rfl, HX3.out⟩
 ·go_wp2
  go_loopw [12] (fun iv wr => ∃ k : Nat, ∃ L : List UInt8, k <= B.length /\ L.length = B.length /\ iv = .int .i64 k /\ Hid (wr.ownsRow w.heap.size 119 1 (.slice (some ⟨g, 0, none⟩) B.length oc) B.length (L.map byteVal)) /\ Hid (Ext w wr)) (fun iv _ => B.length - (intOf iv).toNat)
  case atStart => exact ⟨0, B, by omega, rfl, rfl, HO3, HX3⟩
  case round =>
   obtain ⟨k, L, hk, hL, rfl, hown, hx⟩ := hrel
   clear HO3 HX3 hcv
   by_cases hlt : k < B.length
   ·have hlti : (k : Int) < (B.length : Int) := by omega
    have hkL : k < L.length := by omega
    have hcell := hown.out.cellAt k (by omega)
    rw [List.getElem?_map, List.getElem?_eq_getElem hkL] at hcell
    simp only [Option.map_some] at hcell
    have hfro := hown.out.frozenAt k
    have hup := u8_up L[k]
    have hst := (hown.out.stored k (byteVal (L[k] + 1))).1
    rw [<- List.map_set] at hst
    have HST := qh hst
    have HXS := qh (hx.out.setCell (p := ⟨g, k, none⟩) hg (byteVal (L[k] + 1)))
    have HUP := qh hup
    clear hst hown hx hup
    generalize hy : L[k] = y at *
    clear hy
    unfold byteVal at hcell
    go_wp2
    rw [HUP.out]
    go_roundw
    case rel => exact ⟨k + 1, _, by omega, by rw [List.length_set]; exact hL, by go_num, HST, HXS⟩
    case measure => (simp [intOf]; try omega)
   ·have HXF := qh hx.out
    clear hown hx
    go_wp2
    go_ret
    exact ⟨rfl, HXF.out⟩
end Go.Proofs.YtnjfioikpajhlaaGreat
