import Derived.Test.YtnjfioikpajhlaaGreatMRef4
import Derived.Test.YtnjfioikpajhlaaGreatWNeeds
import Derived.Test.YtnjfioikpajhlaaGreatMWalB
import Derived.Test.YtnjfioikpajhlaaGreatMRec
import Derived.Test.YtnjfioikpajhlaaGreatWalK
import Derived.Test.YtnjfioikpajhlaaGreatWalP
set_option maxRecDepth 100000
set_option maxHeartbeats 64000000
/- Several texts in one (RefC, RefD, RefE, RefF, RefG). -/
namespace Go.Proofs.YtnjfioikpajhlaaGreat
open Go.RowKit
theorem refFirst (r : Ref4) (sv wv : Value) (hsv : ∃ a n cap, sv = .slice a n cap) (hwv : ∃ a n cap, wv = .slice a n cap) (d : D.Dsk) (hn : d.n = r.n) (hn1 : 1 <= d.n) (hn2 : d.n <= 4096) (g : Nat) (w : World) (hg : g < 4294967296) :
 Calls Tryz.prog 100 #[rv r sv wv, .int .u32 (g : Int)] w fun e w' => e = .returned (.int .i64 (W5.areaAt d g : Int)) /\ Ext w w' := by
 obtain ⟨sa, sn, sc, rfl⟩ := hsv
 obtain ⟨wa, wn, wc', rfl⟩ := hwv
 obtain ⟨rn, safe, wait, armed, down, after⟩ := r
 simp only at hn
 subst hn
 unfold rv
 simp only
 have hal := W5.area_le d hn2
 have hae := W5.area_eq d
 have HUN := qh (show W5.areaAt d g = 2 + g % 2 * W5.area d from rfl)
 have hgi : (g : Int) < 4294967296 := by omega
 obtain ⟨k, hk⟩ : ∃ k, k = g % 2 := ⟨_, rfl⟩
 have htm : (g : Int).tmod 2 = (k : Int) := by rw [hk, Int.ofNat_tmod]; rfl
 have hk2 : (k : Int) <= 1 := by omega
 rw [<- hk] at HUN
 clear hk
 have hx1 := Ext.of_alloc w (.cells #[.int .i64 d.n, .slice sa sn sc, .slice wa wn wc', .bool armed, .bool down, .int .i64 after] 33)
 go_enter Tryz.func100, Tryz.ntmps100
 go_wp2_with fail
 refine (refArea_any d.n _ (by omega) (by omega)).mono ?_
 rintro e w1 ⟨rfl, rfl⟩
 rw [hae]
 clear hae
 generalize W5.area d = A at *
 have hai : (A : Int) <= 2047 := by omega
 have hm1 : (k : Int) * (A : Int) <= 2047 := by
  have : k = 0 ∨ k = 1 := by omega
  rcases this with rfl | rfl <;> simp <;> omega
 have hm0 : 0 <= (k : Int) * (A : Int) := Int.mul_nonneg (by omega) (by omega)
 have HX1 := qh hx1
 clear hx1
 go_wp2
 go_ret
 refine ⟨?_, HX1.out⟩
 rw [HUN.out, Int.natCast_add, Int.natCast_mul]
 rfl
theorem refCurrent (r : Ref4) (sv wv : Value) (d : D.Dsk) (hrel : Rel d r) (hok : D.Ok d) (w : World) (hs : RowIn w sv r.safe) (hw : RowIn w wv r.wait) :
 Calls Tryz.prog 66 #[rv r sv wv] w fun e w' => e = .returned (.tuple #[.int .u32 ((W5.current d).1 : Int), .bool (W5.current d).2]) /\ Ext w w' := by
 have hsec := fun (i : Nat) (w' : World) (hx : Ext w w') => ref_sector r sv wv (i : Int) w' (hs.ext hx) (hw.ext hx)
 obtain ⟨sa, sn, sc, rfl⟩ := hs.any
 obtain ⟨wa, wn, wc', rfl⟩ := hw.any
 have hsd : ∀ i : Nat, R4.sector r (i : Int) = D.sector d (i : Int) := fun i => (hrel.sector (i : Int)).symm
 clear hs hw
 obtain ⟨rn, safe, wait, armed, down, after⟩ := r
 unfold rv at hsec ⊢
 simp only at hsec ⊢
 have hx1 := Ext.of_alloc w (.cells #[.int .i64 rn, .slice sa sn sc, .slice wa wn wc', .bool armed, .bool down, .int .i64 after] 33)
 have hbx := fun (v : World) hx => one_box w #[.int .i64 rn, .slice sa sn sc, .slice wa wn wc', .bool armed, .bool down, .int .i64 after] 33 (v := v) hx
 have HSEC := qh hsec
 have HSD := qh hsd
 clear hsec hsd hrel
 go_enter Tryz.func66, Tryz.ntmps66
 go_wp2
 generalize hwb : w.alloc (.cells #[.int .i64 rn, .slice sa sn sc, .slice wa wn wc', .bool armed, .bool down, .int .i64 after] 33) = wb at *
 clear hwb
 go_loopw [4, 5, 6] (fun bv hv iv wr => ∃ k m : Nat, ∃ t : Bool, k <= 2 /\ iv = .int .i64 (k : Int) /\ bv = .int .u32 (m : Int) /\ hv = .bool t /\ Hid ((m, t) = W5.curTo d k) /\ Hid (Ext wb wr)) (fun _ _ iv _ => 2 - (intOf iv).toNat)
 case atStart => exact ⟨0, 0, false, by omega, rfl, rfl, rfl, rfl, Ext.refl wb⟩
 case round =>
  obtain ⟨k, m, t, hk, rfl, rfl, rfl, hmt, hx⟩ := hrel
  have hb := hbx wr hx.out
  by_cases hlt : k < 2
  ·have hlti : (k : Int) < 2 := by omega
   have hsl := sector_len hok (k : Int)
   have hst := W5.curTo_succ d k
   rw [<- hmt.out] at hst
   unfold W5.curStep at hst
   have hml : m < 4294967296 := by have := W5.curTo_lt d k; rw [<- hmt.out] at this; exact this
   have hse := HSEC.out k wr (hx1.trans hx.out)
   rw [HSD.out] at hse
   have HSE := qh hse
   have c0 : wr.cell? ⟨w.heap.size, 0, none⟩ = some (.int .i64 rn) := (cell_of_row wr w.heap.size 0 _ _ _ hb).trans rfl
   have c1 : wr.cell? ⟨w.heap.size, 1, none⟩ = some (.slice sa sn sc) := (cell_of_row wr w.heap.size 1 _ _ _ hb).trans rfl
   have c2 : wr.cell? ⟨w.heap.size, 2, none⟩ = some (.slice wa wn wc') := (cell_of_row wr w.heap.size 2 _ _ _ hb).trans rfl
   have c3 : wr.cell? ⟨w.heap.size, 3, none⟩ = some (.bool armed) := (cell_of_row wr w.heap.size 3 _ _ _ hb).trans rfl
   have c4 : wr.cell? ⟨w.heap.size, 4, none⟩ = some (.bool down) := (cell_of_row wr w.heap.size 4 _ _ _ hb).trans rfl
   have c5 : wr.cell? ⟨w.heap.size, 5, none⟩ = some (.int .i64 after) := (cell_of_row wr w.heap.size 5 _ _ _ hb).trans rfl
   clear hse hb
   go_wp2_with fail
   refine HSE.out.mono ?_
   clear HSE
   rintro e w2 ⟨rfl, hx2⟩
   have HX2 := qh (hx.out.trans hx2)
   clear hx2 hx c0 c1 c2 c3 c4 c5
   unfold strV
   generalize D.sector d (k : Int) = B at *
   have htl := W5.told_lt B
   have hga := refGet_s B 1 4 w2 (by omega) (by omega)
   have htd : (W.get B 1 4).1 = W5.told B := rfl
   rw [htd] at hga
   have HGA := qh hga
   clear hga htd
   generalize W5.told B = T at *
   have HST := qh hst
   clear hst
   have hti : (T : Int) < 4294967296 := by omega
   have hmi : (m : Int) < 4294967296 := by omega
   obtain ⟨r, hr⟩ : ∃ r, r = T % 2 := ⟨_, rfl⟩
   have htm : (T : Int).tmod 2 = (r : Int) := by rw [hr, Int.ofNat_tmod]; rfl
   have hr2 : (r : Int) <= 1 := by omega
   rw [<- hr] at HST
   clear hr
   go_wp2_with fail
   refine HGA.out.mono ?_
   rintro e w3 ⟨rfl, rfl⟩
   clear HGA
   by_cases h1 : r = k
   ·subst h1
    go_wp2_with fail
    refine (refHead T w2 (by omega)).mono ?_
    rintro e w4 ⟨rfl, hx4⟩
    have HX4 := qh (HX2.out.trans hx4)
    clear hx4
    unfold strV
    by_cases h2 : B = W5.head T
    ·have hbe : (B == W5.head T) = true := by rw [beq_iff_eq]; exact h2
     cases t
     ·have hs : Hid ((T, true) = W5.curTo d (r + 1)) := by
       exact (HST.out.trans (if_pos (by refine ⟨?_, h2, .inl rfl⟩; first | rfl | trivial))).symm
      clear h2 HST
      go_wp2
      go_roundw
      case rel => exact ⟨r + 1, T, true, by omega, by go_num, rfl, rfl, hs, HX4⟩
      case measure => (simp [intOf]; try omega)
     ·by_cases h3 : m < T
      ·have h3i : (m : Int) < (T : Int) := by omega
       have hs : Hid ((T, true) = W5.curTo d (r + 1)) := by
        exact (HST.out.trans (if_pos (by refine ⟨?_, h2, .inr h3⟩; first | rfl | trivial))).symm
       clear h2 HST h3
       go_wp2
       go_roundw
       case rel => exact ⟨r + 1, T, true, by omega, by go_num, rfl, rfl, hs, HX4⟩
       case measure => (simp [intOf]; try omega)
      ·have hs : Hid ((m, true) = W5.curTo d (r + 1)) := by
        exact (HST.out.trans (if_neg (by rintro ⟨_, _, h | h⟩; cases h; exact h3 h))).symm
       clear h2 HST htm hsl htl hml
       go_wp2
       go_roundw
       case rel => exact ⟨r + 1, m, true, by omega, by go_num, rfl, rfl, hs, HX4⟩
       case measure => (simp [intOf]; try omega)
    ·have hbe : (B == W5.head T) = false := by rw [beq_eq_false_iff_ne]; exact h2
     have hs : Hid ((m, t) = W5.curTo d (r + 1)) := by
      exact (HST.out.trans (if_neg (by rintro ⟨_, h, _⟩; exact h2 h))).symm
     clear h2 HST
     go_wp2
     go_roundw
     case rel => exact ⟨r + 1, m, t, by omega, by go_num, rfl, rfl, hs, HX4⟩
     case measure => (simp [intOf]; try omega)
   ·have h1i : ((r : Int) == (k : Int)) = false := by rw [beq_eq_false_iff_ne]; omega
    have hs : Hid ((m, t) = W5.curTo d (k + 1)) := by
     exact (HST.out.trans (if_neg (by rintro ⟨h, _, _⟩; exact h1 h))).symm
    clear h1 HST
    go_wp2
    go_roundw
    case rel => exact ⟨k + 1, m, t, by omega, by go_num, rfl, rfl, hs, HX2⟩
    case measure => (simp [intOf]; try omega)
  ·obtain rfl : k = 2 := by omega
   have HXF := qh (hx1.trans hx.out)
   have HM := qh hmt.out
   clear hx hmt
   go_wp2
   go_ret2
   unfold W5.current
   rw [<- HM.out]
   exact ⟨rfl, HXF.out⟩
end Go.Proofs.YtnjfioikpajhlaaGreat
namespace Go.Proofs.YtnjfioikpajhlaaGreat
open Go.RowKit
theorem head_str (B : List UInt8) (h : 0 < B.length) (h0 : 0 < (⟨B.toArray⟩ : ByteArray).size) : (⟨B.toArray⟩ : ByteArray)[0]'h0 = B.headD 0 := by
 cases B with
 | nil => cases h
 | cons b t => rfl
theorem ext_take (l : List UInt8) (k : Nat) : (⟨l.toArray⟩ : ByteArray).extract 0 k = ⟨(l.take k).toArray⟩ := by
 apply ByteArray.ext
 rw [ByteArray.data_extract]
 simp
theorem refNext (r : Ref4) (sv wv : Value) (d : D.Dsk) (hrel : Rel d r) (hok : D.Ok d) (gen : Nat) (w : World) (hs : RowIn w sv r.safe) (hw : RowIn w wv r.wait) (hg : gen < 4294967296) :
 Calls Tryz.prog 67 #[rv r sv wv, .int .u32 (gen : Int)] w fun e w' => e = .returned (.int .u64 (W5.following d gen : Int)) /\ Ext w w' := by
 have hsec := fun (i : Nat) (w' : World) (hx : Ext w w') => ref_sector r sv wv (i : Int) w' (hs.ext hx) (hw.ext hx)
 obtain ⟨sa, sn, sc, rfl⟩ := hs.any
 obtain ⟨wa, wn, wc', rfl⟩ := hw.any
 have hsd : ∀ i : Nat, R4.sector r (i : Int) = D.sector d (i : Int) := fun i => (hrel.sector (i : Int)).symm
 have hrn := hrel.n
 have hn1 := hok.n1
 have hn2 := hok.n2
 clear hs hw
 obtain ⟨rn, safe, wait, armed, down, after⟩ := r
 simp only at hrn
 subst hrn
 unfold rv at hsec ⊢
 simp only at hsec ⊢
 have hx1 := Ext.of_alloc w (.cells #[.int .i64 d.n, .slice sa sn sc, .slice wa wn wc', .bool armed, .bool down, .int .i64 after] 33)
 have hbx := fun (v : World) hx => one_box w #[.int .i64 d.n, .slice sa sn sc, .slice wa wn wc', .bool armed, .bool down, .int .i64 after] 33 (v := v) hx
 have HSEC := qh hsec
 have HSD := qh hsd
 have hgi : (gen : Int) < 4294967296 := by omega
 clear hsec hsd hrel
 go_enter Tryz.func67, Tryz.ntmps67
 go_wp2
 generalize hwb : w.alloc (.cells #[.int .i64 d.n, .slice sa sn sc, .slice wa wn wc', .bool armed, .bool down, .int .i64 after] 33) = wb at *
 clear hwb
 go_loopw [5, 6] (fun mv iv wr => ∃ k m : Nat, (k : Int) <= d.n /\ iv = .int .i64 (k : Int) /\ mv = .int .u64 (m : Int) /\ Hid (m = W5.folTo d gen k) /\ Hid (Ext wb wr)) (fun _ iv _ => d.n.toNat - (intOf iv).toNat)
 case atStart => exact ⟨0, gen, by omega, rfl, rfl, rfl, Ext.refl wb⟩
 case round =>
  obtain ⟨k, m, hk, rfl, rfl, hmt, hx⟩ := hrel
  have hml : m < 4294967296 := by have := W5.folTo_lt d gen hg k; rw [<- hmt.out] at this; exact this
  have hb := hbx wr hx.out
  have c0 : wr.cell? ⟨w.heap.size, 0, none⟩ = some (.int .i64 d.n) := (cell_of_row wr w.heap.size 0 _ _ _ hb).trans rfl
  by_cases hlt : (k : Int) < d.n
  ·have hst := W5.folTo_succ d gen k
   rw [<- hmt.out, tells_eq] at hst
   have hsl := sector_len hok (k : Int)
   have hse := HSEC.out k wr (hx1.trans hx.out)
   rw [HSD.out] at hse
   have HSE := qh hse
   have c1 : wr.cell? ⟨w.heap.size, 1, none⟩ = some (.slice sa sn sc) := (cell_of_row wr w.heap.size 1 _ _ _ hb).trans rfl
   have c2 : wr.cell? ⟨w.heap.size, 2, none⟩ = some (.slice wa wn wc') := (cell_of_row wr w.heap.size 2 _ _ _ hb).trans rfl
   have c3 : wr.cell? ⟨w.heap.size, 3, none⟩ = some (.bool armed) := (cell_of_row wr w.heap.size 3 _ _ _ hb).trans rfl
   have c4 : wr.cell? ⟨w.heap.size, 4, none⟩ = some (.bool down) := (cell_of_row wr w.heap.size 4 _ _ _ hb).trans rfl
   have c5 : wr.cell? ⟨w.heap.size, 5, none⟩ = some (.int .i64 after) := (cell_of_row wr w.heap.size 5 _ _ _ hb).trans rfl
   clear hse hb
   go_wp2_with fail
   refine HSE.out.mono ?_
   clear HSE
   rintro e w2 ⟨rfl, hx2⟩
   have HX2 := qh (hx.out.trans hx2)
   clear hx2 hx c0 c1 c2 c3 c4 c5
   unfold strV
   generalize D.sector d (k : Int) = B at *
   have htl := W5.told_lt B
   have hga := fun w => refGet_s B 1 4 w (by omega) (by omega)
   have htd : (W.get B 1 4).1 = W5.told B := rfl
   rw [htd] at hga
   have HGA := qh hga
   clear hga htd
   generalize W5.told B = T at *
   have HST := qh hst
   clear hst
   have hti : (T : Int) < 4294967296 := by omega
   have hex := ext_take B 508
   have hsz : (⟨B.toArray⟩ : ByteArray).size = 512 := by show B.toArray.size = 512; rw [List.size_toArray]; exact hsl
   have h0s : 0 < (⟨B.toArray⟩ : ByteArray).size := by omega
   have hx0 : (⟨B.toArray⟩ : ByteArray)[0]'h0s = B.headD 0 := head_str B (by omega) h0s
   obtain ⟨x, hx⟩ : ∃ x, x = (B.headD 0).toNat := ⟨_, rfl⟩
   rw [<- hx] at HST
   have hxc : x = 1 ∨ x = 2 ∨ (x ≠ 1 /\ x ≠ 2) := by omega
   rcases hxc with h1 | h1 | ⟨h1, h2⟩
   ·skip
    have hxx : B.headD 0 = 1 := by apply UInt8.toNat_inj.1; rw [<- hx, h1]; rfl
    have hor : x = 1 ∨ x = 2 := by omega
    rw [hxx] at hx0
    have hT := refSealed (B.take 508) w2 (by rw [List.length_take]; omega)
    rw [W5.sealedT_eq _ (by rw [List.length_take]; omega)] at hT
    have HT := qh hT
    clear hT
    go_wp2_with fail
    refine HT.out.mono ?_
    clear HT
    rintro e w4 ⟨rfl, hx4⟩
    have HX4 := qh (HX2.out.trans hx4)
    clear hx4
    unfold strV
    by_cases h3 : B = W5.sealed (B.take 508)
    ·have hs : Hid (max m T = W5.folTo d gen (k + 1)) := (HST.out.trans (if_pos (decide_eq_true ⟨hor, h3⟩))).symm
     generalize W5.sealed (B.take 508) = Z at *
     subst h3
     clear HST
     go_wp2_with fail
     refine (HGA.out _).mono ?_
     clear HGA
     rintro e w6 ⟨rfl, rfl⟩
     by_cases hmT : m < T
     ·rw [Nat.max_eq_right (by omega)] at hs
      go_wp2
      go_roundw
      case rel => exact ⟨k + 1, T, by omega, by go_num, rfl, hs, HX4⟩
      case measure => (simp [intOf]; try omega)
     ·rw [Nat.max_eq_left (by omega)] at hs
      have hmd : decide ((m : Int) < (T : Int)) = false := decide_eq_false (by omega)
      go_wp2
      go_roundw
      case rel => exact ⟨k + 1, m, by omega, by go_num, rfl, hs, HX4⟩
      case measure => (simp [intOf]; try omega)
    ·have hs : Hid (m = W5.folTo d gen (k + 1)) := (HST.out.trans (if_neg (by rw [decide_eq_true_eq]; exact fun h => h3 h.2))).symm
     have hbe : (B == W5.sealed (B.take 508)) = false := by rw [beq_eq_false_iff_ne]; exact h3
     have hbn : (B != W5.sealed (B.take 508)) = true := by rw [bne_iff_ne]; exact h3
     clear h3 HST HGA
     go_wp2
     go_roundw
     case rel => exact ⟨k + 1, m, by omega, by go_num, rfl, hs, HX4⟩
     case measure => (simp [intOf]; try omega)
   ·skip
    have hxx : B.headD 0 = 2 := by apply UInt8.toNat_inj.1; rw [<- hx, h1]; rfl
    have hor : x = 1 ∨ x = 2 := by omega
    rw [hxx] at hx0
    have hT := refSealed (B.take 508) w2 (by rw [List.length_take]; omega)
    rw [W5.sealedT_eq _ (by rw [List.length_take]; omega)] at hT
    have HT := qh hT
    clear hT
    go_wp2_with fail
    refine HT.out.mono ?_
    clear HT
    rintro e w4 ⟨rfl, hx4⟩
    have HX4 := qh (HX2.out.trans hx4)
    clear hx4
    unfold strV
    by_cases h3 : B = W5.sealed (B.take 508)
    ·have hs : Hid (max m T = W5.folTo d gen (k + 1)) := (HST.out.trans (if_pos (decide_eq_true ⟨hor, h3⟩))).symm
     generalize W5.sealed (B.take 508) = Z at *
     subst h3
     clear HST
     go_wp2_with fail
     refine (HGA.out _).mono ?_
     clear HGA
     rintro e w6 ⟨rfl, rfl⟩
     by_cases hmT : m < T
     ·rw [Nat.max_eq_right (by omega)] at hs
      go_wp2
      go_roundw
      case rel => exact ⟨k + 1, T, by omega, by go_num, rfl, hs, HX4⟩
      case measure => (simp [intOf]; try omega)
     ·rw [Nat.max_eq_left (by omega)] at hs
      have hmd : decide ((m : Int) < (T : Int)) = false := decide_eq_false (by omega)
      go_wp2
      go_roundw
      case rel => exact ⟨k + 1, m, by omega, by go_num, rfl, hs, HX4⟩
      case measure => (simp [intOf]; try omega)
    ·have hs : Hid (m = W5.folTo d gen (k + 1)) := (HST.out.trans (if_neg (by rw [decide_eq_true_eq]; exact fun h => h3 h.2))).symm
     have hbe : (B == W5.sealed (B.take 508)) = false := by rw [beq_eq_false_iff_ne]; exact h3
     have hbn : (B != W5.sealed (B.take 508)) = true := by rw [bne_iff_ne]; exact h3
     clear h3 HST HGA
     go_wp2
     go_roundw
     case rel => exact ⟨k + 1, m, by omega, by go_num, rfl, hs, HX4⟩
     case measure => (simp [intOf]; try omega)
   ·have hs : Hid (m = W5.folTo d gen (k + 1)) := (HST.out.trans (if_neg (by rw [decide_eq_true_eq]; exact fun h => h.1.elim h1 h2))).symm
    subst hx
    generalize B.headD 0 = bb at *
    have hv1 : ((bb.toNat : Int) == 1) = false := by rw [beq_eq_false_iff_ne]; omega
    have hv2 : ((bb.toNat : Int) == 2) = false := by rw [beq_eq_false_iff_ne]; omega
    have hv3 : ((bb.toNat : Int) != 1) = true := by rw [bne_iff_ne]; omega
    have hv4 : ((bb.toNat : Int) != 2) = true := by rw [bne_iff_ne]; omega
    have hbl := bb.toNat_lt
    clear HST HGA h1 h2
    go_wp2
    go_roundw
    case rel => exact ⟨k + 1, m, by omega, by go_num, rfl, hs, HX2⟩
    case measure => (simp [intOf]; try omega)
  ·have HXF := qh (hx1.trans hx.out)
   have hkn : k = d.n.toNat := by omega
   have hfo : Hid (W5.following d gen = m + 1 + (if m % 2 = gen % 2 then 0 else 1)) := by unfold W5.following; rw [<- hkn, <- hmt.out]; rfl
   obtain ⟨a, ha⟩ : ∃ a, a = (m + 1) % 2 := ⟨_, rfl⟩
   obtain ⟨b, hb2⟩ : ∃ b, b = gen % 2 := ⟨_, rfl⟩
   have htm : ((m : Int) + 1).tmod 2 = (a : Int) := by rw [ha, show (m : Int) + 1 = ((m + 1 : Nat) : Int) from rfl, Int.ofNat_tmod]; rfl
   have htg : (gen : Int).tmod 2 = (b : Int) := by rw [hb2, Int.ofNat_tmod]; rfl
   have hmi : (m : Int) + 1 <= 4294967296 := by omega
   by_cases hab : a = b
   ·have hfi : Hid (W5.following d gen = m + 1 + 1) := by unfold Hid; rw [hfo.out, if_neg (by omega)]
    subst hab
    clear hx hmt hkn hok hfo ha hb2 hb
    go_wp2
    go_ret
    rw [hfi.out]
    exact ⟨rfl, HXF.out⟩
   ·have hfi : Hid (W5.following d gen = m + 1) := by unfold Hid; rw [hfo.out, if_pos (by omega)]
    have habb : ((a : Int) == (b : Int)) = false := by rw [beq_eq_false_iff_ne]; omega
    clear hx hmt hkn hok hfo ha hb2 hb hab
    go_wp2
    go_ret
    rw [hfi.out]
    exact ⟨rfl, HXF.out⟩
end Go.Proofs.YtnjfioikpajhlaaGreat
namespace Go.Proofs.YtnjfioikpajhlaaGreat
open Go.RowKit
theorem ext_mid (l : List UInt8) (a b : Nat) : (⟨l.toArray⟩ : ByteArray).extract a b = ⟨((l.drop a).take (b - a)).toArray⟩ := by
 apply ByteArray.ext
 rw [ByteArray.data_extract]
 simp
theorem refPart (s : List UInt8) (i : Nat) (w : World) (hs : s.length <= 8192) (hi : i * 491 <= s.length) :
 Calls Tryz.prog 112 #[.string ⟨s.toArray⟩, .int .i64 (i : Int)] w fun e w' => e = .returned (strV ((s.drop (i * 491)).take 491)) /\ w = w' := by
 have hsi : (s.length : Int) <= 8192 := by omega
 have hii : (i : Int) <= 17 := by omega
 have hsz : (⟨s.toArray⟩ : ByteArray).size = s.length := by show s.toArray.size = _; rw [List.size_toArray]
 obtain ⟨f, hf⟩ : ∃ f, f = i * 491 := ⟨_, rfl⟩
 have hfi : (i : Int) * 491 = (f : Int) := by omega
 rw [<- hf] at hi ⊢
 have hfl : (f : Int) <= (s.length : Int) := by omega
 clear hf
 by_cases h : s.length < f + 491
 ·have hi1 : (s.length : Int) < (f : Int) + 491 := by omega
  have hi2 : decide ((s.length : Int) < (f : Int)) = false := decide_eq_false (by omega)
  have hun : Hid ((s.drop f).take 491 = (s.drop f).take (s.length - f)) := by
   unfold Hid
   rw [List.take_of_length_le (by rw [List.length_drop]; omega), List.take_of_length_le (by rw [List.length_drop]; exact Nat.le_refl _)]
  have hex := ext_mid s f s.length
  clear h
  go_enter Tryz.func112, Tryz.ntmps112
  go_wp2
  go_ret
  rw [hun.out]
  exact ⟨rfl, rfl⟩
 ·have hi1 : decide ((s.length : Int) < (f : Int) + 491) = false := decide_eq_false (by omega)
  have hi2 : decide ((f : Int) + 491 < (f : Int)) = false := decide_eq_false (by omega)
  have hi3 : (f : Int) + 491 <= (s.length : Int) := by omega
  have hex := ext_mid s f (f + 491)
  rw [Nat.add_sub_cancel_left] at hex
  have htn : ((f : Int) + 491).toNat = f + 491 := by omega
  clear h
  go_enter Tryz.func112, Tryz.ntmps112
  go_wp2
  go_ret
  exact ⟨rfl, rfl⟩
theorem refPieces (g record : Nat) (s : List UInt8) (w : World) (hg : g < 4294967296) (hr : record < 4294967296) (hs : s.length <= 8192) :
 Calls Tryz.prog 98 #[.int .u32 (g : Int), .int .i64 (record : Int), .string ⟨s.toArray⟩] w fun e w' => ∃ v, e = .returned v /\ w'.ownsRow w.heap.size 9 1 v (W5.need s.length) ((W5.recP g record s (W5.need s.length)).map strV) /\ Ext w w' := by
 obtain ⟨i0, hi0, hz0, hz1, hz2⟩ := info_parts info_str
 have hnd := need_17 s.length hs
 have hnr := refNeed_any (s.length : Int)
 rw [W5.need_nat] at hnr
 have hsz : (⟨s.toArray⟩ : ByteArray).size = s.length := by show s.toArray.size = _; rw [List.size_toArray]
 have hnl : Hid (∀ i, i < W5.need s.length -> i * 491 <= s.length) := by
  intro i hi
  have h1 := need_lt i s.length hi
  have h2 : s.length = 0 -> W5.need s.length = 1 := by intro h; rw [h]; rfl
  omega
 have hgi : (g : Int) < 4294967296 := by omega
 have hri : (record : Int) < 4294967296 := by omega
 have hsi : (s.length : Int) <= 8192 := by omega
 have HPT := qh (fun i => W5.pieceT_eq g record i s hg)
 have HG := qh hg
 have HRC := qh hr
 clear hg hr
 generalize hN : W5.need s.length = N at *
 have HNR := qh hnr
 clear hnr hN
 have hni : (N : Int) <= 17 := by omega
 go_enter Tryz.func98, Tryz.ntmps98
 go_wp2_with fail
 refine (HNR.out w (by omega) (by omega)).mono ?_
 rintro e w1 ⟨rfl, rfl⟩
 go_wp2
 go_loopw [7, 9] (fun bv iv wr => ∃ k : Nat, k <= N /\ iv = .int .i64 (k : Int) /\ Hid (wr.ownsRow w.heap.size 9 1 bv k ((W5.recP g record s k).map strV)) /\ Hid (Ext w wr)) (fun _ iv _ => N - (intOf iv).toNat)
 case atStart => exact ⟨0, by omega, rfl, World.ownsRow_nil _ _ _ _, Ext.refl w⟩
 case round =>
  obtain ⟨k, hk, rfl, ho, hx⟩ := hrel
  by_cases hlt : k < N
  ·have hlti : (k : Int) < (N : Int) := by omega
   have hkl := hnl.out k hlt
   have HSU := qh (W5.recP_succ g record s k)
   have hpt := HPT.out k
   go_wp2_with fail
   refine (refPart s k wr hs hkl).mono ?_
   rintro e w2 ⟨rfl, rfl⟩
   unfold strV
   have hbl : ((s.drop (k * 491)).take 491).length <= 491 := by rw [List.length_take]; omega
   generalize (s.drop (k * 491)).take 491 = BD at *
   go_wp2_with fail
   clear hkl
   refine (refPiece g record k N s.length BD wr HG.out (by have := HRC.out; omega) (by omega) (by omega) (by omega) (by omega)).mono ?_
   rintro e w2 ⟨rfl, hx2⟩
   rw [hpt]
   generalize W5.piece g record k s = Z at *
   have HO2 := qh ((Ext.of_alloc w2 (.cells #[strV Z] 9)).keptOwn (hx2.keptOwn ho.out))
   have HX2 := qh (hx.out.trans hx2)
   have HRD := qh (Reads.one w2 (strV Z) 9 rfl)
   have hs3 : w.heap.size <= (w2.alloc (.cells #[strV Z] 9)).heap.size := by have := HX2.out.size; simp; omega
   clear hx2 hx ho hpt
   unfold strV
   go_wp2_with (first | (at_builtin; refine wpl_append _ rfl _ _ 35 rfl w.heap.size 9 i0 (.string ⟨#[]⟩) 16 Tryz.underlying35 hi0 hz0 hz1 hz2 rfl _ k ((W5.recP g record s k).map strV) (by rfl) HO2.out _ [strV Z] (by rfl) HRD.out (by simp [maxLen]; omega) (by simp; omega) hs3 ?_; intro v' w3 hown3 hgrow) | fail)
   have hx3 : Ext w w3 := (HX2.out.alloc _).grown hgrow (fun q hq => (HO2.out.lt q hq).1)
   have hown4 : w3.ownsRow w.heap.size 9 1 v' (k + 1) ((W5.recP g record s (k + 1)).map strV) := by
    rw [HSU.out, List.map_append]; exact hown3
   have HX3 := qh hx3
   have HO3 := qh hown4
   clear hx3 hown3 hown4 hgrow HO2 hs3
   go_wp2
   go_roundw
   case rel => exact ⟨k + 1, by omega, by go_num, HO3.out, HX3.out⟩
   case measure => (simp [intOf]; try omega)
  ·obtain rfl : k = N := by omega
   have HOF := qh ho.out
   have HXF := qh hx.out
   clear ho hx
   go_wp2
   go_ret
   exact ⟨_, rfl, HOF.out, HXF.out⟩
end Go.Proofs.YtnjfioikpajhlaaGreat
namespace Go.Proofs.YtnjfioikpajhlaaGreat
open Go.RowKit
namespace W5
def nextF (d : D.Dsk) (s : Nat) : Nat -> List UInt8
 | 0 => []
 | k + 1 => nextF d s k ++ ((D.sector d ((s + k : Nat) : Int)).drop 17).take 491
theorem nextF_len (d : D.Dsk) (hok : D.Ok d) (s : Nat) : ∀ k, (nextF d s k).length = k * 491
 | 0 => by show 0 = _; omega
 | k + 1 => by
  have h1 := nextF_len d hok s k
  have h2 := sector_len hok ((s + k : Nat) : Int)
  show (nextF d s k ++ _).length = _
  rw [List.length_append, h1, List.length_take, List.length_drop, h2]
  omega
theorem nextF_take (d : D.Dsk) (hok : D.Ok d) (s n : Nat) : ∀ k, k <= need n -> (nextF d s k).take n = nextB d s n k
 | 0, _ => by show ([] : List UInt8).take n = []; simp
 | k + 1, h => by
  have h1 := nextF_len d hok s k
  have h2 := nextF_take d hok s n k (by omega)
  show (nextF d s k ++ _).take n = nextB d s n k ++ _
  rw [List.take_append, h1, h2, List.take_take, Nat.min_comm]
theorem nextF_all (d : D.Dsk) (hok : D.Ok d) (s n : Nat) : (nextF d s (need n)).take n = nextB d s n (need n) := nextF_take d hok s n _ (Nat.le_refl _)
theorem need_ge (n : Nat) : n <= need n * 491 := by unfold need; split <;> omega
end W5
theorem refRecord (r : Ref4) (sv wv : Value) (d : D.Dsk) (hrel : Rel d r) (hok : D.Ok d) (gen record at_ : Nat) (w : World) (hs : RowIn w sv r.safe) (hw : RowIn w wv r.wait) (hg : gen < 4294967296) (hr : record < 4294967296) (hat : at_ <= 4096) :
 Calls Tryz.prog 97 #[rv r sv wv, .int .u32 (gen : Int), .int .i64 (record : Int), .int .i64 (at_ : Int)] w fun e w' => e = .returned (.tuple #[strV ((W5.nextR d gen record at_).getD []), .bool (W5.nextR d gen record at_).isSome]) /\ Ext w w' := by
 have hsec := fun (i : Int) (w' : World) (hx : Ext w w') => ref_sector r sv wv i w' (hs.ext hx) (hw.ext hx)
 have hsd : ∀ i : Int, R4.sector r i = D.sector d i := fun i => (hrel.sector i).symm
 simp only [hsd] at hsec
 have hn1 := hok.n1
 have hn2 := hok.n2
 have hfi := fun (w' : World) => refFirst r sv wv hs.any hw.any d hrel.n hn1 hn2 gen w' hg
 obtain ⟨sa, sn, sc, rfl⟩ := hs.any
 obtain ⟨wa, wn, wc', rfl⟩ := hw.any
 have hrn := hrel.n
 clear hs hw hsd hrel
 obtain ⟨rn, safe, wait, armed, down, after⟩ := r
 simp only at hrn
 subst hrn
 unfold rv at hsec hfi ⊢
 simp only at hsec hfi ⊢
 have hal := W5.area_le d hn2
 have hae := W5.area_eq d
 have hau : W5.areaAt d gen = 2 + gen % 2 * W5.area d := rfl
 have hab : W5.areaAt d gen <= 2049 /\ (0 < W5.area d -> W5.areaAt d gen + W5.area d <= d.n.toNat) := by
  have h3 : (W5.area d : Int) = W5.areaI d.n := hae.symm
  unfold W5.areaI at h3
  rw [hau]
  have : gen % 2 = 0 ∨ gen % 2 = 1 := by omega
  rcases this with h4 | h4 <;> rw [h4] <;> split at h3 <;> omega
 clear hau
 obtain ⟨hab1, hab2⟩ := hab
 have hx1 := Ext.of_alloc w (.cells #[.int .i64 d.n, .slice sa sn sc, .slice wa wn wc', .bool armed, .bool down, .int .i64 after] 33)
 have hcs : ∀ v, Ext (w.alloc (.cells #[.int .i64 d.n, .slice sa sn sc, .slice wa wn wc', .bool armed, .bool down, .int .i64 after] 33)) v ->
  v.cell? ⟨w.heap.size, 0, none⟩ = some (.int .i64 d.n) /\ v.cell? ⟨w.heap.size, 1, none⟩ = some (.slice sa sn sc) /\ v.cell? ⟨w.heap.size, 2, none⟩ = some (.slice wa wn wc') /\
  v.cell? ⟨w.heap.size, 3, none⟩ = some (.bool armed) /\ v.cell? ⟨w.heap.size, 4, none⟩ = some (.bool down) /\ v.cell? ⟨w.heap.size, 5, none⟩ = some (.int .i64 after) := by
  intro v hv
  have hb := one_box w #[.int .i64 d.n, .slice sa sn sc, .slice wa wn wc', .bool armed, .bool down, .int .i64 after] 33 (v := v) hv
  exact ⟨(cell_of_row v w.heap.size 0 _ _ _ hb).trans rfl, (cell_of_row v w.heap.size 1 _ _ _ hb).trans rfl, (cell_of_row v w.heap.size 2 _ _ _ hb).trans rfl, (cell_of_row v w.heap.size 3 _ _ _ hb).trans rfl, (cell_of_row v w.heap.size 4 _ _ _ hb).trans rfl, (cell_of_row v w.heap.size 5 _ _ _ hb).trans rfl⟩
 have HSEC := qh hsec
 have HFI := qh hfi
 have hgi : (gen : Int) < 4294967296 := by omega
 have hri : (record : Int) < 4294967296 := by omega
 have hati : (at_ : Int) <= 4096 := by omega
 have HG := qh hg
 have HRC := qh hr
 clear hsec hfi hg hr
 go_enter Tryz.func97, Tryz.ntmps97
 go_wp2_with fail
 generalize hwb : w.alloc (.cells #[.int .i64 d.n, .slice sa sn sc, .slice wa wn wc', .bool armed, .bool down, .int .i64 after] 33) = wb at *
 clear hwb
 have HCS := qh hcs
 clear hcs
 obtain ⟨c0, c1, c2, c3, c4, c5⟩ := HCS.out wb (Ext.refl wb)
 go_wp2_with fail
 refine (refArea_any d.n wb (by omega) (by omega)).mono ?_
 rintro e w1 ⟨rfl, rfl⟩
 rw [hae]
 have hal2 := hal
 generalize hA : W5.area d = A at *
 have hai : (A : Int) <= 2047 := by omega
 by_cases h1 : A <= at_
 ·have h1i : (A : Int) <= (at_ : Int) := by omega
  have HN : Hid (W5.nextR d gen record at_ = none) := by unfold Hid W5.nextR; rw [if_pos (by rw [hA]; exact h1)]
  go_wp2
  go_ret2
  rw [HN.out]
  exact ⟨rfl, hx1⟩
 ·have h1i : decide (A <= at_) = false := decide_eq_false h1
  have h1j : (at_ : Int) < (A : Int) := by omega
  obtain ⟨M, hM⟩ : ∃ M : Nat, A = at_ + M := ⟨A - at_, by omega⟩
  have hZt : W5.areaAt d gen + at_ + M <= d.n.toNat := by have := hab2 (by omega); omega
  have hZe : W5.areaAt d gen + at_ + M <= d.n.toNat := hZt
  have HR : Hid (W5.nextR d gen record at_ = if 8192 < W5.size4 (D.sector d ((W5.areaAt d gen + at_ : Nat) : Int)) ∨ M < W5.need (W5.size4 (D.sector d ((W5.areaAt d gen + at_ : Nat) : Int))) then none else
   if W5.fits d gen record (W5.areaAt d gen + at_) (W5.nextB d (W5.areaAt d gen + at_) (W5.size4 (D.sector d ((W5.areaAt d gen + at_ : Nat) : Int))) (W5.need (W5.size4 (D.sector d ((W5.areaAt d gen + at_ : Nat) : Int))))) (W5.need (W5.size4 (D.sector d ((W5.areaAt d gen + at_ : Nat) : Int)))) = true
   then some (W5.nextB d (W5.areaAt d gen + at_) (W5.size4 (D.sector d ((W5.areaAt d gen + at_ : Nat) : Int))) (W5.need (W5.size4 (D.sector d ((W5.areaAt d gen + at_ : Nat) : Int))))) else none) := by
   have hMn : A - at_ = M := by omega
   unfold Hid W5.nextR
   rw [hA, if_neg h1, hMn]
  clear hab2 h1
  generalize hZ : W5.areaAt d gen = Z at *
  have hMi : (M : Int) <= 2047 := by omega
  have hZi : (Z : Int) <= 2049 := by omega
  have HM := qh hM
  have HAE := qh hae
  clear hM hab1 hA hZ hae hal hal2
  have HOK := qh hok
  have HZT := qh hZt
  clear hok hZt c0 c1 c2 c3 c4 c5
  go_wp2_with fail
  obtain ⟨c0, c1, c2, c3, c4, c5⟩ := HCS.out wb (Ext.refl wb)
  have hx0 := Ext.of_drew wb
  have HSB : Hid (∀ (i : Int) (v : World), Ext wb v -> Calls Tryz.prog 93 #[.agg #[.int .i64 d.n, .slice sa sn sc, .slice wa wn wc', .bool armed, .bool down, .int .i64 after], .int .i64 i] v fun e w' => e = .returned (.string ⟨(D.sector d i).toArray⟩) /\ Ext v w') := fun i v hv => HSEC.out i v (hx1.trans hv)
  have hw1 : IntKind.i64.wrap ((Z : Int) + (at_ : Int)) = (Z : Int) + (at_ : Int) := by rw [IntKind.wrap_i64]; omega
  have hsl := sector_len HOK.out ((Z : Int) + (at_ : Int))
  have HGT : Hid (∀ v, Calls Tryz.prog 94 #[.string ⟨(D.sector d ((Z : Int) + (at_ : Int))).toArray⟩, .int .i64 13, .int .i64 4] v fun e w' => e = .returned (.tuple #[.int .u64 ((W.get (D.sector d ((Z : Int) + (at_ : Int))) 13 4).1 : Int), .int .i64 ((W.get (D.sector d ((Z : Int) + (at_ : Int))) 13 4).2 : Int)]) /\ v = w') := fun v => refGet_s _ 13 4 v (by omega) (by omega)
  go_region_held3 (fun v => v.cell? ⟨w.heap.size, 0, none⟩ = some (.int .i64 d.n) /\ v.cell? ⟨w.heap.size, 1, none⟩ = some (.slice sa sn sc) /\ v.cell? ⟨w.heap.size, 2, none⟩ = some (.slice wa wn wc') /\
   v.cell? ⟨w.heap.size, 3, none⟩ = some (.bool armed) /\ v.cell? ⟨w.heap.size, 4, none⟩ = some (.bool down) /\ v.cell? ⟨w.heap.size, 5, none⟩ = some (.int .i64 after)) (first | exact HCS.out _ hx0 | exact HCS.out _ (hx0.trans hx4) | exact HCS.out _ ((hx0.trans hx4).trans hx5)) (first
   | (go_at_call 100; refine (HFI.out _).mono ?_; rintro e w4 ⟨rfl, hx4⟩)
   | (go_at_call 93; refine (HSB.out _ _ (hx0.trans hx4)).mono ?_; rintro e w5 ⟨rfl, hx5⟩)
   | (go_at_call 94; refine (HGT.out _).mono ?_; rintro e w6 ⟨rfl, rfl⟩))
  have HX5 := qh ((hx0.trans hx4).trans hx5)
  clear hx5 hx4 hx0 hZe HGT c0 c1 c2 c3 c4 c5
  have hTe : (Z : Int) + (at_ : Int) = ((Z + at_ : Nat) : Int) := by omega
  rw [hTe]
  have hga : (W.get (D.sector d ((Z + at_ : Nat) : Int)) 13 4).1 = W5.size4 (D.sector d ((Z + at_ : Nat) : Int)) := rfl
  have hnl := W5.size4_lt (D.sector d ((Z + at_ : Nat) : Int))
  generalize hT : Z + at_ = T at *
  rw [hga]
  clear hga hsl hw1
  generalize (W.get (D.sector d (T : Int)) 13 4).2 = n2 at *
  generalize hn : W5.size4 (D.sector d (T : Int)) = n at *
  clear hn
  have hni : (n : Int) < 4294967296 := by omega
  have hMe : (A : Int) - (at_ : Int) = (M : Int) := by have := HM.out; omega
  obtain ⟨c0, c1, c2, c3, c4, c5⟩ := HCS.out _ HX5.out
  clear hnl
  by_cases h2 : 8192 < n
  ·have HN : Hid (W5.nextR d gen record at_ = none) := HR.out.trans (if_pos (.inl h2))
   have h2i : (8192 : Int) < (n : Int) := by omega
   clear HR h2
   go_wp2_with fail
   go_quiet (fail)
   go_wp2
   go_ret2
   rw [HN.out]
   exact ⟨rfl, hx1.trans (below_drewN HX5.out _)⟩
  ·have h2d : decide ((8192 : Int) < (n : Int)) = false := decide_eq_false (by omega)
   have h2i : (n : Int) <= 8192 := by omega
   have hnd := need_17 n (by omega)
   have hndp := W5.need_pos n
   have HNE : Hid (∀ w, Calls Tryz.prog 40 #[.int .i64 (n : Int)] w fun e w' => e = .returned (.int .i64 (W5.need n : Int)) /\ w = w') := by
    intro w
    refine (refNeed_any (n : Int) w (by omega) (by omega)).mono ?_
    rintro e w1 ⟨rfl, rfl⟩
    rw [W5.need_nat]
    exact ⟨rfl, rfl⟩
   have HFL := qh (fun k => W5.nextF_len d HOK.out T k)
   have HFB := qh (W5.nextF_all d HOK.out T n)
   have HBL := qh (W5.nextB_all d HOK.out T n)
   have hNg := W5.need_ge n
   generalize hN : W5.need n = N at *
   have HNN := qh hN
   clear hN
   have hne : ∀ m, Calls Tryz.prog 40 #[.int .i64 (n : Int)] (w5.drewN m) fun e w' => e = .returned (.int .i64 (N : Int)) /\ w' = w5.drewN m := fun m => (HNE.out _).mono (fun _ _ hh => ⟨hh.1, hh.2.symm⟩)
   have har : ∀ m, Calls Tryz.prog 37 #[.int .i64 d.n] (w5.drewN m) fun e w' => e = .returned (.int .i64 (A : Int)) /\ w' = w5.drewN m := fun m => (refArea_any d.n (w5.drewN m) (by omega) (by omega)).mono (fun _ _ hh => ⟨by rw [hh.1, HAE.out], hh.2.symm⟩)
   have hNi : (N : Int) <= 17 := by omega
   by_cases h3 : M < N
   ·have HN : Hid (W5.nextR d gen record at_ = none) := HR.out.trans (if_pos (.inr h3))
    have h3d : decide (M < N) = true := decide_eq_true h3
    clear HR
    go_wp2_with fail
    go_quiet (first
     | (go_at_call 40; exact Calls.quiet_of_same (hne _))
     | (go_at_call 37; exact Calls.quiet_of_same (har _)))
    go_wp2
    go_ret2
    rw [HN.out]
    exact ⟨rfl, hx1.trans (below_drewN HX5.out _)⟩
   ·have h3d : decide (M < N) = false := decide_eq_false h3
    have HR2 : Hid (W5.nextR d gen record at_ = _) := HR.out.trans (if_neg (by rintro (h | h); exact h2 h; exact h3 h))
    clear HR
    go_wp2_with fail
    go_quiet (first
     | (go_at_call 40; exact Calls.quiet_of_same (hne _))
     | (go_at_call 37; exact Calls.quiet_of_same (har _)))
    clear hne har h2 h3 h3d h2d c0 c1 c2 c3 c4 c5
    have HXC := qh (below_drewN HX5.out nq)
    generalize w5.drewN nq = wC at *
    go_wp2
    go_loopw [12, 13] (fun bv iv wr => ∃ k : Nat, k <= N /\ iv = .int .i64 (k : Int) /\ bv = .string ⟨(W5.nextF d T k).toArray⟩ /\ Hid (Ext wb wr)) (fun _ iv _ => N - (intOf iv).toNat)
    case atStart => exact ⟨0, by omega, rfl, rfl, HXC.out⟩
    case round =>
     obtain ⟨k, hk, rfl, rfl, hx⟩ := hrel
     go_wp2_with fail
     refine (HNE.out _).mono ?_
     rintro e w6 ⟨rfl, rfl⟩
     by_cases hlt : k < N
     ·have hlti : (k : Int) < (N : Int) := by omega
      have hx0 := hx.out.trans (Ext.of_drew wr)
      have hk17 : (k : Int) <= 17 := by omega
      have hTi : (Z : Int) + (at_ : Int) = (T : Int) := hTe
      have hTb : (T : Int) <= 4096 := by have := HZT.out; omega
      have hTk : (T : Int) + (k : Int) = ((T + k : Nat) : Int) := by omega
      have hse := fun v hv => HSB.out ((T + k : Nat) : Int) v hv
      have hsl := sector_len HOK.out ((T + k : Nat) : Int)
      have hfs : Hid (W5.nextF d T k ++ ((D.sector d ((T + k : Nat) : Int)).drop 17).take 491 = W5.nextF d T (k + 1)) := rfl
      have hfl := HFL.out k
      generalize T + k = Q at *
      have hwT : IntKind.i64.wrap (T : Int) = (T : Int) := by rw [IntKind.wrap_i64]; omega
      have hwQ : IntKind.i64.wrap (Q : Int) = (Q : Int) := by rw [IntKind.wrap_i64]; omega
      generalize hF1 : W5.nextF d T (k + 1) = F1 at *
      have HF1 := qh hF1
      clear hF1
      generalize D.sector d (Q : Int) = B0 at *
      generalize W5.nextF d T k = F0 at *
      have hsz : (⟨B0.toArray⟩ : ByteArray).size = 512 := by show B0.toArray.size = 512; rw [List.size_toArray]; exact hsl
      have hex : (⟨B0.toArray⟩ : ByteArray).extract 17 508 = ⟨((B0.drop 17).take 491).toArray⟩ := ext_mid B0 17 508
      have hadd := ba_append F0 ((B0.drop 17).take 491)
      rw [hfs.out] at hadd
      have hlB : ((B0.drop 17).take 491).length = 491 := by rw [List.length_take, List.length_drop, hsl]; rfl
      have hszF : (⟨F0.toArray⟩ : ByteArray).size = k * 491 := by show F0.toArray.size = _; rw [List.size_toArray]; exact hfl
      have hszB : (⟨((B0.drop 17).take 491).toArray⟩ : ByteArray).size = 491 := by show ((B0.drop 17).take 491).toArray.size = _; rw [List.size_toArray]; exact hlB
      obtain ⟨c0, c1, c2, c3, c4, c5⟩ := HCS.out _ hx.out
      have HSE := qh hse
      clear hse hsl hfl hfs hlB
      generalize (B0.drop 17).take 491 = BD at *
      generalize hFA : (⟨F0.toArray⟩ : ByteArray) = FA at *
      generalize (⟨BD.toArray⟩ : ByteArray) = BA at *
      have hcc : ¬ 9223372036854775807 < FA.size + BA.size := by omega
      clear hszF hszB hFA
      go_wp2_with fail
      go_region_held3 (fun v => v.cell? ⟨w.heap.size, 0, none⟩ = some (.int .i64 d.n) /\ v.cell? ⟨w.heap.size, 1, none⟩ = some (.slice sa sn sc) /\ v.cell? ⟨w.heap.size, 2, none⟩ = some (.slice wa wn wc') /\
       v.cell? ⟨w.heap.size, 3, none⟩ = some (.bool armed) /\ v.cell? ⟨w.heap.size, 4, none⟩ = some (.bool down) /\ v.cell? ⟨w.heap.size, 5, none⟩ = some (.int .i64 after)) (first | exact HCS.out _ hx0 | exact HCS.out _ (hx0.trans hx4) | exact HCS.out _ ((hx0.trans hx4).trans hx5)) (first
       | (go_at_call 100; refine (HFI.out _).mono ?_; rintro e w4 ⟨rfl, hx4⟩)
       | (go_at_call 93; refine (HSE.out _ (hx0.trans hx4)).mono ?_; rintro e w5 ⟨rfl, hx5⟩))
      have HX6 := qh ((hx0.trans hx4).trans hx5)
      clear hx0 hx4 hx5 hx c0 c1 c2 c3 c4 c5 hcc hadd hex hsz
      go_wp2
      go_roundw
      case rel => exact ⟨k + 1, by omega, by go_num, by rw [HF1.out], HX6.out⟩
      case measure => (simp [intOf]; try omega)
     ·obtain rfl : k = N := by omega
      have hfl := HFL.out k
      have hszF : (⟨(W5.nextF d T k).toArray⟩ : ByteArray).size = k * 491 := by show (W5.nextF d T k).toArray.size = _; rw [List.size_toArray]; exact hfl
      have hex := ext_take (W5.nextF d T k) n
      rw [HFB.out] at hex
      have hnk : (n : Int) <= (k : Int) * 491 := by omega
      have hbl := HBL.out
      generalize W5.nextF d T k = F0 at *
      generalize W5.nextB d T n k = B at *
      clear hfl HFL
      have hnb : W5.need B.length = k := by rw [hbl, HNN.out]
      have HXR := qh hx.out
      clear hx
      go_wp2_with fail
      refine (refPieces gen record B wr HG.out HRC.out (by omega)).mono ?_
      rintro e w6 ⟨pv, rfl, hpo, hx6⟩
      rw [hnb] at hpo
      have hpr := Reads.of_own hpo (fun u hu => by obtain ⟨x, -, rfl⟩ := List.mem_map.1 hu; rfl)
      obtain ⟨pa, pc, rfl⟩ := hpr.shape
      rw [List.length_map, W5.recP_len] at hpr ⊢
      have HPR := qh hpr
      have HXA := qh (HXR.out.trans hx6)
      clear hpr hpo hx6 hszF hex hnb
      have HBE := qh hbl
      clear hbl
      go_wp2
      go_loopw [15] (fun iv wr2 => ∃ i : Nat, i <= k /\ iv = .int .i64 (i : Int) /\ Hid (W5.fits d gen record T B i = true) /\ Hid (Ext w6 wr2)) (fun iv _ => k - (intOf iv).toNat)
      case atStart => exact ⟨0, by omega, rfl, W5.fits_zero _ _ _ _ _, Ext.refl w6⟩
      case round =>
       obtain ⟨i, hi, rfl, hf, hx⟩ := hrel
       by_cases hlt : i < k
       ·have hlti : (i : Int) < (k : Int) := by omega
        obtain ⟨pb, po, rfl, cp⟩ := HPR.out.at i (by rw [List.length_map, W5.recP_len]; exact hlt)
        rw [List.getElem_map, W5.recP_get] at cp
        unfold strV at cp
        replace cp := hx.out.cell cp
        have hx0 := (HXA.out.trans hx.out).trans (Ext.of_drew wr)
        have hk17 : (i : Int) <= 17 := by omega
        have hTi : (Z : Int) + (at_ : Int) = (T : Int) := hTe
        have hTb : (T : Int) <= 4096 := by have := HZT.out; omega
        have hTk : (T : Int) + (i : Int) = ((T + i : Nat) : Int) := by omega
        have hse := fun v hv => HSB.out ((T + i : Nat) : Int) v hv
        have hf1 : Hid (D.sector d ((T + i : Nat) : Int) = W5.piece gen record i B -> W5.fits d gen record T B (i + 1) = true) := fun h => W5.fits_succ _ _ _ _ _ _ hf.out h
        have hf2 : Hid (D.sector d ((T + i : Nat) : Int) ≠ W5.piece gen record i B -> W5.nextR d gen record at_ = none) := fun h => HR2.out.trans (if_neg (by rw [W5.fits_not _ _ _ _ _ _ _ hlt h]; decide))
        generalize T + i = Q at *
        have hwT : IntKind.i64.wrap (T : Int) = (T : Int) := by rw [IntKind.wrap_i64]; omega
        have hwQ : IntKind.i64.wrap (Q : Int) = (Q : Int) := by rw [IntKind.wrap_i64]; omega
        generalize D.sector d (Q : Int) = B0 at *
        generalize W5.piece gen record i B = P at *
        obtain ⟨c0, c1, c2, c3, c4, c5⟩ := HCS.out _ (HXA.out.trans hx.out)
        have HCP : Hid (∀ v, Ext wr v -> v.cell? ⟨pb, po + i, none⟩ = some (.string ⟨P.toArray⟩)) := fun v hv => hv.cell cp
        have hd0 := Ext.of_drew wr
        have ALL : Hid (∀ v, Ext wr v -> v.cell? ⟨w.heap.size, 0, none⟩ = some (.int .i64 d.n) /\ v.cell? ⟨w.heap.size, 1, none⟩ = some (.slice sa sn sc) /\ v.cell? ⟨w.heap.size, 2, none⟩ = some (.slice wa wn wc') /\
         v.cell? ⟨w.heap.size, 3, none⟩ = some (.bool armed) /\ v.cell? ⟨w.heap.size, 4, none⟩ = some (.bool down) /\ v.cell? ⟨w.heap.size, 5, none⟩ = some (.int .i64 after) /\ v.cell? ⟨pb, po + i, none⟩ = some (.string ⟨P.toArray⟩)) := by
         intro v hv
         obtain ⟨a0, a1, a2, a3, a4, a5⟩ := HCS.out v ((HXA.out.trans hx.out).trans hv)
         exact ⟨a0, a1, a2, a3, a4, a5, hv.cell cp⟩
        have HSE := qh hse
        have HXR2 := qh (HXA.out.trans hx.out)
        have HXO := qh hx.out
        clear hse hx hf
        by_cases h7 : B0 = P
        ·have HF1 := qh (hf1.out h7)
         subst h7
         clear hf1 hf2
         go_wp2_with fail
         go_region_held3 (fun v => v.cell? ⟨w.heap.size, 0, none⟩ = some (.int .i64 d.n) /\ v.cell? ⟨w.heap.size, 1, none⟩ = some (.slice sa sn sc) /\ v.cell? ⟨w.heap.size, 2, none⟩ = some (.slice wa wn wc') /\
         v.cell? ⟨w.heap.size, 3, none⟩ = some (.bool armed) /\ v.cell? ⟨w.heap.size, 4, none⟩ = some (.bool down) /\ v.cell? ⟨w.heap.size, 5, none⟩ = some (.int .i64 after) /\ v.cell? ⟨pb, po + i, none⟩ = some (.string ⟨B0.toArray⟩)) (first | exact ALL.out _ hd0 | exact ALL.out _ (hd0.trans hx4) | exact ALL.out _ ((hd0.trans hx4).trans hx5)) (first
          | (go_at_call 100; refine (HFI.out _).mono ?_; rintro e w4 ⟨rfl, hx4⟩)
          | (go_at_call 93; refine (HSE.out _ (hx0.trans hx4)).mono ?_; rintro e w5 ⟨rfl, hx5⟩))
         have HX6 := qh (HXO.out.trans ((hd0.trans hx4).trans hx5))
         clear hx0 hx4 hx5 hd0 c0 c1 c2 c3 c4 c5 cp
         go_wp2
         go_roundw
         case rel => exact ⟨i + 1, by omega, by go_num, HF1, HX6⟩
         case measure => (simp [intOf]; try omega)
        ·have hbe : (B0 == P) = false := by rw [beq_eq_false_iff_ne]; exact h7
         have hbn : (B0 != P) = true := by rw [bne_iff_ne]; exact h7
         have HN := hf2.out h7
         clear hf1 hf2 h7
         go_wp2_with fail
         go_region_held3 (fun v => v.cell? ⟨w.heap.size, 0, none⟩ = some (.int .i64 d.n) /\ v.cell? ⟨w.heap.size, 1, none⟩ = some (.slice sa sn sc) /\ v.cell? ⟨w.heap.size, 2, none⟩ = some (.slice wa wn wc') /\
         v.cell? ⟨w.heap.size, 3, none⟩ = some (.bool armed) /\ v.cell? ⟨w.heap.size, 4, none⟩ = some (.bool down) /\ v.cell? ⟨w.heap.size, 5, none⟩ = some (.int .i64 after) /\ v.cell? ⟨pb, po + i, none⟩ = some (.string ⟨P.toArray⟩)) (first | exact ALL.out _ hd0 | exact ALL.out _ (hd0.trans hx4) | exact ALL.out _ ((hd0.trans hx4).trans hx5)) (first
          | (go_at_call 100; refine (HFI.out _).mono ?_; rintro e w4 ⟨rfl, hx4⟩)
          | (go_at_call 93; refine (HSE.out _ (hx0.trans hx4)).mono ?_; rintro e w5 ⟨rfl, hx5⟩))
         have HX6 := qh ((hx1.trans HXR2.out).trans ((hd0.trans hx4).trans hx5))
         clear hx0 hx4 hx5 hd0 c0 c1 c2 c3 c4 c5 cp
         go_wp2
         go_ret2
         rw [HN]
         exact ⟨rfl, HX6.out⟩
       ·obtain rfl : i = k := by omega
        have HN : Hid (W5.nextR d gen record at_ = some B) := HR2.out.trans (if_pos hf.out)
        have HXF := qh (hx1.trans (HXA.out.trans hx.out))
        clear HR2 hf hx
        go_wp2
        go_ret2
        rw [HN.out]
        exact ⟨rfl, HXF.out⟩
end Go.Proofs.YtnjfioikpajhlaaGreat
namespace Go.Proofs.YtnjfioikpajhlaaGreat
open Go.RowKit
theorem str_one (l : List (List UInt8)) : ∀ u ∈ l.map strV, u.oneCell' = true := by
 intro u hu
 obtain ⟨x, _, rfl⟩ := List.mem_map.1 hu
 rfl
theorem str_at {w : World} {a : Option Addr} {n cap : Nat} {ls : List (List UInt8)} (h : Reads w (.slice a n cap) (ls.map strV)) (j : Nat) (hj : j < ls.length) : ∃ b off, a = some ⟨b, off, none⟩ /\ w.cell? ⟨b, off + j, none⟩ = some (.string ⟨ls[j].toArray⟩) := by
 obtain ⟨b, off, h1, h2⟩ := h.at j (by rw [List.length_map]; exact hj)
 refine ⟨b, off, h1, ?_⟩
 rw [h2, List.getElem_map]
 rfl
theorem str_shape {w : World} {v : Value} {ls : List (List UInt8)} (h : Reads w v (ls.map strV)) : ∃ a cap, v = .slice a ls.length cap := by
 obtain ⟨a, cap, h1⟩ := h.shape
 rw [List.length_map] at h1
 exact ⟨a, cap, h1⟩
namespace W5
def limF (ls : List (List UInt8)) (most : Nat) : Nat -> Nat -> Nat
 | 0, k => usedTo ls k
 | f + 1, k => if k < ls.length /\ usedTo ls k <= most then limF ls most f (k + 1) else usedTo ls k
def lim (ls : List (List UInt8)) (most : Nat) : Nat := limF ls most ls.length 0
end W5
def UsedE (ls : List (List UInt8)) (most : Nat) (n : Nat) : Prop := (W5.used ls <= most -> n = W5.used ls) /\ (most < W5.used ls -> most < n) /\ n <= 2000000
theorem UsedE_lim (ls : List (List UInt8)) (most : Nat) : (W5.used ls <= most -> W5.lim ls most = W5.used ls) /\ (most < W5.used ls -> most < W5.lim ls most) := by
 have h : ∀ f k, ls.length <= f + k -> k <= ls.length -> (W5.used ls <= most -> W5.limF ls most f k = W5.used ls) /\ (most < W5.used ls -> most < W5.limF ls most f k) := by
  intro f
  induction f with
  | zero =>
   intro k h1 h2
   obtain rfl : k = ls.length := by omega
   have e : W5.limF ls most 0 ls.length = W5.used ls := by show W5.usedTo ls ls.length = _; unfold W5.usedTo W5.used; rw [List.take_length]
   rw [e]
   exact ⟨fun _ => rfl, fun h => h⟩
  | succ f ih =>
   intro k h1 h2
   show (W5.used ls <= most -> (if k < ls.length /\ W5.usedTo ls k <= most then W5.limF ls most f (k + 1) else W5.usedTo ls k) = W5.used ls) /\ (most < W5.used ls -> most < (if k < ls.length /\ W5.usedTo ls k <= most then W5.limF ls most f (k + 1) else W5.usedTo ls k))
   have hul := W5.usedTo_le ls k
   split
   ·rename_i h3
    exact ih (k + 1) (by omega) (by omega)
   ·rename_i h3
    by_cases h4 : k < ls.length
    ·have h5 : ¬ W5.usedTo ls k <= most := fun h => h3 ⟨h4, h⟩
     exact ⟨fun h => absurd (Nat.le_trans hul h) h5, fun _ => Nat.lt_of_not_le h5⟩
    ·obtain rfl : k = ls.length := by omega
     have e : W5.usedTo ls ls.length = W5.used ls := by unfold W5.usedTo W5.used; rw [List.take_length]
     rw [e]
     exact ⟨fun _ => rfl, fun h => h⟩
 exact h ls.length 0 (by omega) (by omega)
theorem refUsed (v : Value) (ls : List (List UInt8)) (most : Nat) (w : World) (h : Reads w v (ls.map strV)) (hls : ∀ b ∈ ls, b.length <= 1000000) (hm : most <= 4096) :
 Calls Tryz.prog 38 #[v, .int .i64 (most : Int)] w fun e w' => e = .returned (.int .i64 (W5.lim ls most : Int)) /\ UsedE ls most (W5.lim ls most) /\ w = w' := by
 obtain ⟨a, cap, rfl⟩ := str_shape h
 have hll := h.length_le
 rw [List.length_map] at hll
 have HAT := qh (fun j hj => str_at h j hj)
 have HLS := qh hls
 have hmi : (most : Int) <= 4096 := by omega
 clear h hls
 unfold UsedE
 go_enter Tryz.func38, Tryz.ntmps38
 go_wp2
 go_loopw [5, 6] (fun nv iv wr => ∃ k : Nat, k <= ls.length /\ iv = .int .i64 (k : Int) /\ nv = .int .i64 (W5.usedTo ls k : Int) /\ W5.usedTo ls k <= 2000000 /\ Hid (W5.limF ls most (ls.length - k) k = W5.lim ls most) /\ w = wr) (fun _ iv _ => ls.length - (intOf iv).toNat)
 case atStart => exact ⟨0, by omega, rfl, rfl, (by show 0 <= _; omega), rfl, rfl⟩
 case round =>
  obtain ⟨k, hk, rfl, rfl, hu, hlf, rfl⟩ := hrel
  by_cases hlt : k < ls.length
  ·have hlti : (k : Int) < (ls.length : Int) := by omega
   have hfk : ls.length - k = ls.length - (k + 1) + 1 := by omega
   rw [hfk] at hlf
   clear hfk
   have hus := W5.usedTo_succ ls k hlt
   have hlb := HLS.out ls[k] (List.getElem_mem hlt)
   obtain ⟨b, off, rfl, hc⟩ := HAT.out k hlt
   by_cases hle : W5.usedTo ls k <= most
   ·have hlei : (W5.usedTo ls k : Int) <= (most : Int) := by omega
    have HLF : Hid (W5.limF ls most (ls.length - (k + 1)) (k + 1) = W5.lim ls most) := (if_pos ⟨hlt, hle⟩).symm.trans hlf.out
    clear hlf
    have hnr := fun w => refNeed_any (ls[k].length : Int) w (by omega) (by omega)
    rw [W5.need_nat] at hnr
    have hnd : W5.need ls[k].length <= 3000 := by unfold W5.need; split <;> omega
    have hsz : (⟨ls[k].toArray⟩ : ByteArray).size = ls[k].length := by show ls[k].toArray.size = _; rw [List.size_toArray]
    generalize ls[k] = B at *
    generalize W5.need B.length = N at *
    have hni : (N : Int) <= 3000 := by omega
    have HNR := qh hnr
    have HUS := qh hus
    clear hnr hus hlb hle
    have hui : (W5.usedTo ls k : Int) <= 4096 := by omega
    have hnn : W5.usedTo ls k + N <= 2000000 := by omega
    have HSU : Hid (W5.usedTo ls (k + 1) <= 2000000) := by rw [<- HUS.out] at hnn; exact hnn
    have hse : Hid ((W5.usedTo ls k : Int) + (N : Int) = ((W5.usedTo ls (k + 1) : Nat) : Int)) := by unfold Hid; rw [HUS.out]; omega
    generalize W5.usedTo ls k = U at *
    clear hnn hu HUS
    go_wp2_with fail
    refine (HNR.out _).mono ?_
    rintro e w1 ⟨rfl, rfl⟩
    go_wp2
    go_roundw
    case rel => exact ⟨k + 1, by omega, by go_num, by rw [<- hse.out], HSU.out, HLF, trivial⟩
    case measure => (simp [intOf]; try omega)
   ·have hlei : decide (W5.usedTo ls k <= most) = false := decide_eq_false hle
    have hul := W5.usedTo_le ls k
    have hR1 : Hid (W5.used ls <= most -> W5.usedTo ls k = W5.used ls) := fun h => absurd (Nat.le_trans hul h) hle
    have hR2 : Hid (most < W5.used ls -> most < W5.usedTo ls k) := fun _ => Nat.lt_of_not_le hle
    have HLF : Hid (W5.usedTo ls k = W5.lim ls most) := (if_neg (fun h => hle h.2)).symm.trans hlf.out
    clear hul hle hus hlb hlf
    go_wp2
    go_ret
    rw [<- HLF.out]
    exact ⟨rfl, ⟨hR1.out, hR2.out, hu⟩, rfl⟩
  ·obtain rfl : k = ls.length := by omega
   have hue : W5.usedTo ls ls.length = W5.used ls := by unfold W5.usedTo W5.used; rw [List.take_length]
   rw [Nat.sub_self] at hlf
   have HLF : Hid (W5.lim ls most = W5.used ls) := hlf.out.symm.trans hue
   rw [hue] at hu ⊢
   clear hue hlf
   go_wp2
   go_ret
   rw [HLF.out]
   exact ⟨rfl, ⟨fun _ => rfl, fun h => h, hu⟩, rfl⟩
theorem refCopied (v : Value) (ls : List (List UInt8)) (w : World) (h : Reads w v (ls.map strV)) (hl : ls.length <= 1000000) :
 Calls Tryz.prog 75 #[v] w fun e w' => ∃ v', e = .returned v' /\ w'.ownsRow w.heap.size 9 1 v' ls.length (ls.map strV) /\ Ext w w' := by
 obtain ⟨i0, hi0, hz0, hz1, hz2⟩ := info_parts info_str
 have H := qh h
 obtain ⟨a, cap, rfl⟩ := str_shape h
 clear h
 go_enter Tryz.func75, Tryz.ntmps75
 go_wp2_with (first | (at_builtin; refine wpl_append _ rfl _ _ 35 rfl w.heap.size 9 i0 (.string ⟨#[]⟩) 16 Tryz.underlying35 hi0 hz0 hz1 hz2 rfl (.slice none 0 0) 0 [] (by rfl) (World.ownsRow_nil _ _ _ _) _ (ls.map strV) (by rfl) H.out (by simp [maxLen]; omega) (by simp; omega) (Nat.le_refl _) ?_; intro v' w3 hown3 hgrow) | fail)
 have hx3 : Ext w w3 := (Ext.refl w).grown hgrow (fun q hq => by simp [Value.ownBlock] at hq)
 rw [List.length_map, Nat.zero_add, List.nil_append] at hown3
 have HO := qh hown3
 have HX := qh hx3
 clear hown3 hx3 hgrow
 go_wp2
 go_ret
 exact ⟨_, rfl, HO.out, HX.out⟩
theorem refRead (r : Ref4) (sv wv : Value) (d : D.Dsk) (hrel : Rel d r) (hok : D.Ok d) (gen : Nat) (w : World) (hs : RowIn w sv r.safe) (hw : RowIn w wv r.wait) (hg : gen < 4294967296) :
 Calls Tryz.prog 68 #[rv r sv wv, .int .u32 (gen : Int)] w fun e w' => ∃ v, e = .returned v /\ w'.ownsRow w.heap.size 9 1 v (W5.read d gen).length ((W5.read d gen).map strV) /\ Ext w w' := by
 obtain ⟨i0, hi0, hz0, hz1, hz2⟩ := info_parts info_str
 have hrc := fun (k a : Nat) (w' : World) (hx : Ext w w') (hk : k < 4294967296) (ha : a <= 4096) => refRecord r sv wv d hrel hok gen k a w' (hs.ext hx) (hw.ext hx) hg hk ha
 obtain ⟨sa, sn, sc, rfl⟩ := hs.any
 obtain ⟨wa, wn, wc', rfl⟩ := hw.any
 have hn2 := hok.n2
 have hal := W5.area_le d hn2
 have HOKD := qh hok
 obtain ⟨rn, safe, wait, armed, down, after⟩ := r
 unfold rv at hrc ⊢
 simp only at hrc ⊢
 have HRC := qh hrc
 have HG := qh hg
 have hgi : (gen : Int) < 4294967296 := by omega
 have hx1 := Ext.of_alloc w (.cells #[.int .i64 rn, .slice sa sn sc, .slice wa wn wc', .bool armed, .bool down, .int .i64 after] 33)
 have hbx := fun (v : World) hx => one_box w #[.int .i64 rn, .slice sa sn sc, .slice wa wn wc', .bool armed, .bool down, .int .i64 after] 33 (v := v) hx
 clear hrc hs hw hrel hg hok hn2
 go_enter Tryz.func68, Tryz.ntmps68
 go_wp2
 generalize hwb : w.alloc (.cells #[.int .i64 rn, .slice sa sn sc, .slice wa wn wc', .bool armed, .bool down, .int .i64 after] 33) = wb at *
 have hbs : w.heap.size <= wb.heap.size := by rw [<- hwb, World.size_alloc]; omega
 clear hwb
 go_loopw [5, 6] (fun bv av wr => ∃ ls : List (List UInt8), ∃ f : Nat, av = .int .i64 (W5.used ls : Int) /\ W5.used ls <= W5.area d /\ W5.area d < f + W5.used ls /\ Hid (wr.ownsRow wb.heap.size 9 1 bv ls.length (ls.map strV)) /\ Hid (Ext wb wr) /\ Hid (W5.read d gen = ls ++ W5.readF d gen f ls.length (W5.used ls))) (fun _ av _ => W5.area d - (intOf av).toNat)
 case atStart => exact ⟨[], W5.area d + 1, rfl, by show 0 <= _; omega, by show _ < _ + 0; omega, World.ownsRow_nil _ _ _ _, Ext.refl _, rfl⟩
 case round =>
  obtain ⟨ls, f, rfl, hul, hfu, ho, hx, ht⟩ := hrel
  have hlu := W5.len_le_used ls
  have HREC := qh (HRC.out ls.length (W5.used ls) wr (hx1.trans hx.out) (by omega) (by omega))
  have HNS := qh (fun b (h : W5.nextR d gen ls.length (W5.used ls) = some b) => W5.nextR_some HOKD.out h)
  have HRS := qh (fun b (h : W5.nextR d gen ls.length (W5.used ls) = some b) => W5.readF_some (f := f - 1) h)
  have HRN := qh (fun (h : W5.nextR d gen ls.length (W5.used ls) = none) => W5.readF_none (f := f) h)
  have hf1 : f - 1 + 1 = f := by omega
  rw [hf1] at HRS
  clear hf1
  have hsh := str_shape (Reads.of_own ho.out (str_one _))
  obtain ⟨lva, lvc, rfl⟩ := hsh
  have hlsi : (ls.length : Int) <= 2047 := by omega
  have hui : (W5.used ls : Int) <= 2047 := by omega
  have hb := hbx wr hx.out
  have c0 : wr.cell? ⟨w.heap.size, 0, none⟩ = some (.int .i64 rn) := (cell_of_row wr w.heap.size 0 _ _ _ hb).trans rfl
  have c1 : wr.cell? ⟨w.heap.size, 1, none⟩ = some (.slice sa sn sc) := (cell_of_row wr w.heap.size 1 _ _ _ hb).trans rfl
  have c2 : wr.cell? ⟨w.heap.size, 2, none⟩ = some (.slice wa wn wc') := (cell_of_row wr w.heap.size 2 _ _ _ hb).trans rfl
  have c3 : wr.cell? ⟨w.heap.size, 3, none⟩ = some (.bool armed) := (cell_of_row wr w.heap.size 3 _ _ _ hb).trans rfl
  have c4 : wr.cell? ⟨w.heap.size, 4, none⟩ = some (.bool down) := (cell_of_row wr w.heap.size 4 _ _ _ hb).trans rfl
  have c5 : wr.cell? ⟨w.heap.size, 5, none⟩ = some (.int .i64 after) := (cell_of_row wr w.heap.size 5 _ _ _ hb).trans rfl
  clear hb
  go_wp2_with fail
  refine HREC.out.mono ?_
  clear HREC c0 c1 c2 c3 c4 c5
  rintro e w4 ⟨rfl, hx4⟩
  have HX4 := qh (hx.out.trans hx4)
  have HO4 := qh (hx4.keptOwn ho.out)
  clear hx4 ho hx
  cases hn : W5.nextR d gen ls.length (W5.used ls) with
  | none =>
   have HLE : Hid (W5.read d gen = ls) := by
    unfold Hid
    rw [ht.out, HRN.out hn, List.append_nil]
   have HXF := qh (hx1.trans HX4.out)
   clear HRS HRN HNS ht hn
   unfold strV
   simp only [Option.isSome_none, Option.getD_none]
   go_wp2
   go_ret
   rw [HLE.out]
   exact ⟨_, rfl, ownsRow_base5 HO4.out hbs, HXF.out⟩
  | some b =>
   have hns := HNS.out b hn
   have hrs := HRS.out b hn
   have hnl := need_17 b.length hns.2
   have hnp := W5.need_pos b.length
   have hnr := fun w => refNeed_any (b.length : Int) w (by omega) (by omega)
   rw [W5.need_nat] at hnr
   have HNR := qh hnr
   have HT2 : Hid (W5.read d gen = (ls ++ [b]) ++ W5.readF d gen (f - 1) (ls ++ [b]).length (W5.used (ls ++ [b]))) := by
    unfold Hid
    rw [ht.out, hrs, W5.used_snoc, List.length_append, List.append_assoc]
    rfl
   have HUS := qh (W5.used_snoc ls b)
   have hul2 : W5.used (ls ++ [b]) <= W5.area d := by rw [HUS.out]; omega
   have hfu2 : W5.area d < f - 1 + W5.used (ls ++ [b]) := by rw [HUS.out]; omega
   have hwr : W5.used ls + W5.need b.length = W5.used (ls ++ [b]) := HUS.out.symm
   have hsz : (⟨b.toArray⟩ : ByteArray).size = b.length := by show b.toArray.size = _; rw [List.size_toArray]
   have hbi : (b.length : Int) <= 8192 := by omega
   have hx7 := Ext.of_alloc w4 (.cells #[strV b] 9)
   have HR7 := qh (hx7.keptOwn HO4.out)
   have HRD := qh (Reads.one w4 (strV b) 9 rfl)
   have hbase : wb.heap.size <= (w4.alloc (.cells #[strV b] 9)).heap.size := by have := HX4.out.size; rw [World.size_alloc]; omega
   have HX7 := qh hx7
   clear HNS HRS HRN ht hrs hnr hn HUS hx7
   generalize hU2 : W5.used (ls ++ [b]) = U2 at *
   generalize hUU : W5.used ls = U at *
   generalize hNN : W5.need b.length = N at *
   have hwrI : (U : Int) + (N : Int) = (U2 : Int) := by omega
   have hU2i : (U2 : Int) <= 2047 := by omega
   unfold strV at HRD HR7 HX7 hbase ⊢
   simp only [Option.isSome_some, Option.getD_some]
   go_wp2_with (first | (at_builtin; refine wpl_append _ rfl _ _ 35 rfl wb.heap.size 9 i0 (.string ⟨#[]⟩) 16 Tryz.underlying35 hi0 hz0 hz1 hz2 rfl _ ls.length (ls.map strV) (by rfl) HR7.out _ [.string ⟨b.toArray⟩] (by rfl) HRD.out (by simp [maxLen]; omega) (by simp; omega) hbase ?_; intro v' w8 hown8 hgrow8) | fail)
   have HX8 := qh ((HX4.out.trans HX7.out).grown hgrow8 (fun k hk => (HR7.out.lt k hk).1))
   have hown9 : w8.ownsRow wb.heap.size 9 1 v' (ls ++ [b]).length ((ls ++ [b]).map strV) := by
    rw [List.map_append, List.length_append]; exact hown8
   have HO8 := qh hown9
   clear hown8 hgrow8 HR7 HRD hown9
   go_wp2_with fail
   refine (HNR.out _).mono ?_
   rintro e w9 ⟨rfl, rfl⟩
   go_wp2
   go_roundw
   case rel => exact ⟨ls ++ [b], f - 1, by rw [hU2], by rw [hU2]; omega, by rw [hU2]; omega, HO8, HX8, by rw [hU2]; exact HT2⟩
   case measure => (simp [intOf]; try omega)
end Go.Proofs.YtnjfioikpajhlaaGreat
