/- The walk of jetwaylaw04.DiskApart: a clone goes its own way. -/
import Derived.Test.YtmlancmcgcjodaaTwo
import Derived.Test.YtmlancmcgcjodaaRegion
import Derived.Test.YtmlancmcgcjodaaMade
import Derived.Test.YtmlancmcgcjodaaSects
import Derived.Test.YtmlancmcgcjodaaWFlushed
namespace Go.Proofs.Ytmlancmcgcjodaa
open Go.RowKit

/-- What the clone comes to. -/
theorem apart_law {d0 d1 : D.Dsk} (h0 : Six d0 0) (A : List UInt8) (hA : A.length = 512) (hd1 : d1 = D.write d0 2 A) (i : Int) (s : List UInt8) (hs : s.length = 512) :
    Six d1 1 ∧ d1.wait.length = 1 ∧ (i ≠ 2 → D.sector (D.restart (D.cut (D.flush (D.write d1 i s))) []) 2 = A) ∧
    (i ≠ 1 → D.sector (D.restart (D.cut (D.flush (D.write d1 i s))) []) 1 = D.sector d1 1) := by
  obtain ⟨e1, e2⟩ := D.up_write h0.up 2 A (by omega) (by rw [h0.n]; omega) hA
  have hw0 := h0.waits
  have h1 : d1.wait = [(2, A)] ∧ d1.safe = d0.safe ∧ Six d1 1 := by
    refine ⟨by rw [hd1, e2, hw0]; rfl, by rw [hd1, e2], by rw [hd1]; exact h0.write 2 A⟩
  obtain ⟨hw1, hs1, h61⟩ := h1
  have hup2 : D.Up (D.write d1 i s) := (h61.write i s).up
  have hfl := (D.up_flush hup2).2
  have hsec : ∀ j, D.sector (D.restart (D.cut (D.flush (D.write d1 i s))) []) j = (D.over (D.write d1 i s).safe (D.write d1 i s).wait j).getD (List.replicate 512 0) := by
    intro j
    rw [hfl]
    show (D.over _ (D.kept [] []) j).getD _ = _
    rfl
  have hsec1 : D.sector d1 1 = (d0.safe 1).getD (List.replicate 512 0) := by
    unfold D.sector
    rw [hw1, hs1]
    rfl
  refine ⟨h61, by rw [hw1]; rfl, fun hi => ?_, fun hi => ?_⟩
  · rw [hsec]
    by_cases hleg : 0 ≤ i ∧ i < 6
    · have hwr := (D.up_write h61.up i s hleg.1 (by rw [h61.n]; exact hleg.2) hs).2
      rw [hwr, hw1]
      have h2i : ¬ (2 : Int) = i := fun e => hi e.symm
      show ((if (2 : Int) = i then some s else if (2 : Int) = 2 then some A else d1.safe 2).getD _) = A
      rw [if_neg h2i, if_pos rfl]; rfl
    · have hwr : D.write d1 i s = d1 := by
        have hb : i < 0 ∨ d1.n ≤ i := by rw [h61.n]; omega
        unfold D.write; rw [if_pos hb]
      rw [hwr, hw1]
      rfl
  · rw [hsec, hsec1]
    by_cases hleg : 0 ≤ i ∧ i < 6
    · have hwr := (D.up_write h61.up i s hleg.1 (by rw [h61.n]; exact hleg.2) hs).2
      rw [hwr, hw1]
      have h2i : ¬ (1 : Int) = i := fun e => hi e.symm
      show ((if (1 : Int) = i then some s else if (1 : Int) = 2 then some A else d1.safe 1).getD _) = _
      rw [if_neg h2i, if_neg (by decide), hs1]
    · have hwr : D.write d1 i s = d1 := by
        have hb : i < 0 ∨ d1.n ≤ i := by rw [h61.n]; omega
        unfold D.write; rw [if_pos hb]
      rw [hwr, hw1]
      show ((if (1 : Int) = 2 then some A else d1.safe 1).getD _) = _
      rw [if_neg (by decide), hs1]

set_option maxRecDepth 100000 in
set_option maxHeartbeats 6400000 in
theorem diskApart_core (sv : Value) (l : List Act4) (i : Int) (dv : Value) (data : List UInt8) (w : World) (hs : ActsIn w sv l) (hb : Bs w dv data) (hl : l.length ≤ 100) (hdl : data.length ≤ 1000) :
    Calls Try.prog 6 #[sv, .int .i64 i, dv] w fun e w' => e = .returned (.bool true) ∧ Ext w w' := by
  obtain ⟨a, cap, rfl, _⟩ := hs.shape
  obtain ⟨da, dc, rfl⟩ := hb.shape
  have HS := Lib.hid hs
  have HB := Lib.hid hb
  have hli : ¬ (100 : Int) < (l.length : Int) := by omega
  have hdli : ¬ (1000 : Int) < (data.length : Int) := by omega
  clear hs hb
  go_enter Try.func6, Try.ntmps6
  go_wp2_with fail
  refine (awake4 w).mono ?_
  rintro e w1 ⟨rfl, hx1⟩
  have HX1 := Lib.hid hx1
  clear hx1
  go_wp2_with fail
  refine (made_any _ l w1 (HS.out.ext HX1.out) hl).mono ?_
  rintro e w2 ⟨p, d0, rfl, hh, hsx⟩
  have HSX := Lib.hid hsx
  have HD := Lib.hid hh
  clear hh hsx
  obtain ⟨A, hA⟩ : ∃ A, A = D.full [119, 97, 105, 116, 115] := ⟨_, rfl⟩
  obtain ⟨M, hM⟩ : ∃ M, M = D.full [109, 105, 110, 101] := ⟨_, rfl⟩
  have HAL := Lib.hid (show A.length = 512 by rw [hA]; exact full_len _)
  have HML := Lib.hid (show M.length = 512 by rw [hM]; exact full_len _)
  have HA := Lib.hid hA
  have HM := Lib.hid hM
  clear hA hM
  have k1 := Lib.run_convert_bytes_const (P := Try.prog) w2 31 5 #[.int .u8 119, .int .u8 97, .int .u8 105, .int .u8 116, .int .u8 115] 5 5 Try.underlying31 Try.underlying5
  have hb1 : Bs (w2.alloc (.cells #[.int .u8 119, .int .u8 97, .int .u8 105, .int .u8 116, .int .u8 115] 5 (5, 6))) (.slice (some ⟨w2.heap.size, 0, none⟩) 5 5) [119, 97, 105, 116, 115] := Bs.litM w2 [119, 97, 105, 116, 115] 5 (5, 6) (by simp [maxLen])
  have hx1 := Ext.of_alloc w2 (.cells #[.int .u8 119, .int .u8 97, .int .u8 105, .int .u8 116, .int .u8 115] 5 (5, 6))
  go_wp2_with fail
  refine (full_step _ _ _ hb1).mono ?_
  rintro e w3 ⟨b, rfl, hb, hb2, hbs, hx2⟩
  rw [← HA.out] at hbs
  have HW := Lib.hid (held_write HD.out (hx1.trans hx2) 2 _ _ hbs (held_full b hx1.size hb hb2) (by rw [HSX.out.waits]; simp))
  obtain ⟨d1, hd1⟩ : ∃ d1, d1 = D.write d0 2 A := ⟨_, rfl⟩
  have hw1 := (D.up_write HSX.out.up 2 A (by omega) (by rw [HSX.out.n]; omega) HAL.out).1
  rw [← hd1, hw1] at HW
  obtain ⟨S, hS⟩ : ∃ S, S = D.full data := ⟨_, rfl⟩
  have HSL := Lib.hid (show S.length = 512 by rw [hS]; exact full_len _)
  have HSS := Lib.hid hS
  have HLAW := Lib.hid (apart_law HSX.out A HAL.out hd1 i S HSL.out)
  have HSIX := Lib.hid HLAW.out.1
  have HWL := Lib.hid HLAW.out.2.1
  have HN1 := Lib.hid (D.up_read HLAW.out.1.up)
  clear k1 hb1 hx1 hb hb2 hbs hx2 HD hd1 hw1 hS
  go_wp2_with fail
  refine HW.out.mono ?_
  clear HW
  rintro e w4 ⟨rfl, hs, _⟩
  have HD := Lib.hid hs
  clear hs
  go_wp2_with fail
  refine (held_clone HD.out (by rw [HWL.out]; omega)).mono ?_
  rintro e w5 ⟨q, rfl, hT, hx5⟩
  have HT := Lib.hid hT
  clear hT hx5 HD
  go_wp2_with fail
  refine (held_waiting HT.out.symm.held).mono ?_
  rintro e w6 ⟨rfl, rfl⟩
  rw [HWL.out]
  go_wp2_with fail
  refine (sectors_any HT.out.symm.held HSIX.out.n HSIX.out.up).mono ?_
  rintro e w6 ⟨ov, rfl, hown, hx6⟩
  have HT6 := Lib.hid (HT.out.after_ext hx6)
  clear HT hx6
  go_wp2_with fail
  refine (sectors_any HT6.out.held HSIX.out.n HSIX.out.up).mono ?_
  rintro e w7 ⟨ov2, rfl, hown2, hx7⟩
  have hr1 := Reads.of_own (hx7.keptOwn hown) (by simp [strV, Value.oneCell'])
  have hr2 := Reads.of_own hown2 (by simp [strV, Value.oneCell'])
  have HT7 := Lib.hid (HT6.out.after_ext hx7)
  clear hown hown2 hx7 HT6
  go_wp2_with fail
  refine (same_any _ _ _ _ _ hr1 hr2).mono ?_
  rintro e w8 ⟨rfl, hx8⟩
  rw [decide_eq_true (Eq.refl (D.secs d1 6))]
  have HT8 := Lib.hid (HT7.out.after_ext hx8)
  clear hr1 hr2 hx8 HT7
  go_wp2_with fail
  refine (sectors_any HT8.out.held HSIX.out.n HSIX.out.up).mono ?_
  rintro e w9 ⟨ov3, rfl, hown, hx9⟩
  have hT9 := HT8.out.all hx9
  obtain ⟨oa, oc, _, h60⟩ | ⟨og, oc, rfl, _, hog⟩ := own_shape hown
  · omega
  have hOX : New (fun k => k < w1.heap.size) w8 w9 og := .inr (hown.lt og rfl)
  generalize New (fun k => k < w1.heap.size) w8 w9 = Y at hT9 hOX
  have HT9 := Lib.hid hT9
  have HOX := Lib.hid hOX
  have HO9 := Lib.hid (Reads.of_own hown (by simp [strV, Value.oneCell']))
  clear hOX hown hT9 HT8 hx9 hog
  go_wp2_with fail
  refine (full_step _ _ _ (HB.out.ext (HX1.out.trans HT9.out.ext))).mono ?_
  rintro e w10 ⟨b, rfl, hb, hb2, hbs, hx10⟩
  rw [← HSS.out] at hbs
  obtain ⟨Y2, hY2, hYY, hback⟩ := HT9.out.symm.first
  have HW := Lib.hid (held_write hY2 hx10 i _ _ hbs (held_full b (Nat.le_refl _) hb hb2) (by rw [HWL.out]; omega))
  have HXA := Lib.hid hx10
  have HYY := Lib.hid hYY
  have HBK := Lib.hid hback
  clear hb hb2 hbs hY2 hYY hback hx10
  go_wp2_with fail
  refine HW.out.mono ?_
  clear HW
  rintro e w11 ⟨rfl, hs, hke⟩
  have HK11 := Lib.hid (Keeps.trans (Keeps.of_ext (X := Y2) HXA.out) hke)
  have HF := Lib.hid (held_flush hs)
  clear hs hke HXA
  go_wp2_with fail
  refine HF.out.mono ?_
  clear HF
  rintro e w12 ⟨rfl, hs, hke⟩
  have HK12 := Lib.hid (Keeps.trans HK11.out hke)
  have HF := Lib.hid (held_cut hs)
  clear hs hke HK11
  go_wp2_with fail
  refine HF.out.mono ?_
  clear HF
  rintro e w13 ⟨rfl, hs, hke⟩
  have HK13 := Lib.hid (Keeps.trans HK12.out hke)
  have HO13 := Lib.hid (HK13.out.reads HO9.out (fun k hk => by
    obtain rfl : og = k := by simpa [Value.ownBlock] using hk
    exact HYY.out _ HOX.out))
  have HT13 := Lib.hid (HBK.out _ _ hs HK13.out).symm
  clear hs hke HK12 HK13 HBK HYY HT9 HO9
  obtain ⟨c3, hc3⟩ : ∃ c3, c3 = D.cut (D.flush (D.write d1 i S)) := ⟨_, rfl⟩
  rw [← hc3] at HT13
  have hc3n : c3.n = 6 := by
    rw [hc3]
    exact ((HSIX.out.write i S).flush).n
  have HLAW2 := HLAW.out.2.2
  rw [← hc3] at HLAW2
  have HL2 := Lib.hid HLAW2
  clear hc3 HLAW HLAW2
  go_wp2_with fail
  refine (sectors_any HT13.out.held HSIX.out.n HSIX.out.up).mono ?_
  rintro e w14 ⟨ov4, rfl, hown, hx14⟩
  have hr1 := Reads.of_own hown (by simp [strV, Value.oneCell'])
  have hr2 := HO13.out.ext hx14
  have HT14 := Lib.hid (HT13.out.after_ext hx14)
  have HO14 := Lib.hid hr2
  clear hown hx14 HT13 HO13
  go_wp2_with fail
  refine (same_any _ _ _ _ _ hr1 hr2).mono ?_
  rintro e w15 ⟨rfl, hx15⟩
  rw [decide_eq_true (Eq.refl (D.secs d1 6))]
  have HT15 := Lib.hid (HT14.out.after_ext hx15)
  have HO15 := Lib.hid (HO14.out.ext hx15)
  clear hr1 hr2 hx15 HT14 HO14
  go_wp2_with fail
  refine (held_waiting HT15.out.held).mono ?_
  rintro e w16 ⟨rfl, rfl⟩
  rw [HWL.out]
  go_wp2_with fail
  refine (held_down HT15.out.held).mono ?_
  rintro e w16 ⟨rfl, rfl⟩
  rw [HSIX.out.up.1]
  have k1 := Lib.run_convert_bytes_const (P := Try.prog) w15 31 5 #[.int .u8 109, .int .u8 105, .int .u8 110, .int .u8 101] 4 4 Try.underlying31 Try.underlying5
  have hb1 : Bs (w15.alloc (.cells #[.int .u8 109, .int .u8 105, .int .u8 110, .int .u8 101] 5 (4, 5))) (.slice (some ⟨w15.heap.size, 0, none⟩) 4 4) [109, 105, 110, 101] := Bs.litM w15 [109, 105, 110, 101] 5 (4, 5) (by simp [maxLen])
  have hx1 := Ext.of_alloc w15 (.cells #[.int .u8 109, .int .u8 105, .int .u8 110, .int .u8 101] 5 (4, 5))
  go_wp2_with fail
  refine (full_step _ _ _ hb1).mono ?_
  rintro e w16 ⟨b, rfl, hb, hb2, hbs, hx2⟩
  rw [← HM.out] at hbs
  obtain ⟨Y3, hY3, hYY, hback⟩ := HT15.out.first
  have HW := Lib.hid (held_write hY3 (hx1.trans hx2) 1 _ _ hbs (held_full b hx1.size hb hb2) (by rw [HWL.out]; omega))
  have HXA := Lib.hid (hx1.trans hx2)
  have HYY := Lib.hid hYY
  have HBK := Lib.hid hback
  clear k1 hb1 hx1 hb hb2 hbs hx2 hY3 hYY hback
  go_wp2_with fail
  refine HW.out.mono ?_
  clear HW
  rintro e w17 ⟨rfl, hs, hke⟩
  have HK17 := Lib.hid (Keeps.trans (Keeps.of_ext (X := Y3) HXA.out) hke)
  have HO17 := Lib.hid (HK17.out.reads HO15.out (fun k hk => by
    obtain rfl : og = k := by simpa [Value.ownBlock] using hk
    exact HYY.out _ HOX.out))
  have HT17 := Lib.hid (HBK.out _ _ hs HK17.out)
  clear hs hke HXA HBK HYY HT15 HO15 HK17
  generalize D.write d1 1 M = d2 at *
  obtain ⟨Y4, hY4, hYY, hback⟩ := HT17.out.symm.first
  have HR := Lib.hid (held_restart hY4 (Ext.refl _) (.slice none 0 0) [] (Reads.nil _) (.inl rfl))
  have HYY := Lib.hid hYY
  clear hY4 hYY hback
  go_wp2_with fail
  refine HR.out.mono ?_
  clear HR
  rintro e w18 ⟨rfl, hs, hke⟩
  have HO18 := Lib.hid (hke.reads HO17.out (fun k hk => by
    obtain rfl : og = k := by simpa [Value.ownBlock] using hk
    exact HYY.out _ HOX.out))
  have HD18 := Lib.hid hs
  clear hs hke HT17 HO17 HYY
  have hn4 : (D.restart c3 []).n = 6 := hc3n
  have hup4 : D.Up (D.restart c3 []) := ⟨rfl, rfl⟩
  generalize D.restart c3 [] = c4 at *
  obtain ⟨r1, r2⟩ := D.up_read hup4 2 (by omega) (by omega)
  obtain ⟨r3, r4⟩ := D.up_read hup4 1 (by omega) (by omega)
  go_wp2_with fail
  refine (held_read HD18.out 2).mono ?_
  rintro e w19 ⟨v, rfl, hown, hx19⟩
  rw [r1]
  rw [r2] at hown
  have HBV := Lib.hid (Bs.of_own hown)
  have HD19 := Lib.hid (HD18.out.after_ext hx19)
  have HO19 := Lib.hid (HO18.out.ext hx19)
  clear hown hx19 HD18 HO18 r1 r2
  go_wp2_with fail
  refine (held_read HD19.out 1).mono ?_
  rintro e w20 ⟨v2, rfl, hown, hx20⟩
  rw [r3]
  rw [r4] at hown
  have HBX := Lib.hid (Bs.of_own hown)
  have HBV2 := Lib.hid (HBV.out.ext hx20)
  have HD20 := Lib.hid (HD19.out.after_ext hx20)
  have HO20 := Lib.hid (HO19.out.ext hx20)
  clear hown hx20 HD19 HO19 r3 r4 HBV
  have k1 := Lib.run_convert_bytes_const (P := Try.prog) w20 31 5 #[.int .u8 109, .int .u8 105, .int .u8 110, .int .u8 101] 4 4 Try.underlying31 Try.underlying5
  have hb1 : Bs (w20.alloc (.cells #[.int .u8 109, .int .u8 105, .int .u8 110, .int .u8 101] 5 (4, 5))) (.slice (some ⟨w20.heap.size, 0, none⟩) 4 4) [109, 105, 110, 101] := Bs.litM w20 [109, 105, 110, 101] 5 (4, 5) (by simp [maxLen])
  have hx1 := Ext.of_alloc w20 (.cells #[.int .u8 109, .int .u8 105, .int .u8 110, .int .u8 101] 5 (4, 5))
  go_wp2_with fail
  refine (full_step _ _ _ hb1).mono ?_
  rintro e w21 ⟨bm, rfl, _, _, hbm, hx2⟩
  rw [← HM.out] at hbm
  have hbv := (HBV2.out.ext hx1).ext hx2
  have hbx := (HBX.out.ext hx1).ext hx2
  have HXX := Lib.hid (((HX1.out.trans HD20.out.ext).trans hx1).trans hx2)
  have hwas := (HO20.out.ext hx1).ext hx2
  clear k1 hb1 hx1 hx2 HO20 HBX HBV2 HD20
  obtain ⟨bo, oo, hbo, hcw⟩ := hwas.at 1 (by rw [List.length_map, secs_len]; omega)
  obtain ⟨rfl, rfl, _⟩ := Addr.mk.inj (Option.some.inj hbo)
  have hw1e : ((D.secs d1 6).map strV)[1]'(by rw [List.length_map, secs_len]; omega) = .string ⟨(D.sector d1 1).toArray⟩ := by
    rw [List.getElem_map]; simp only [D.secs, List.getElem_map, List.getElem_range]; rfl
  rw [hw1e] at hcw
  have hcw1 : w21.cell? ⟨og, 1, none⟩ = some (.string ⟨(D.sector d1 1).toArray⟩) := hcw
  clear hwas hbo hw1e hcw
  obtain ⟨va, vc, rfl⟩ := hbv.shape
  obtain ⟨xa, xc, rfl⟩ := hbx.shape
  have HBV := Lib.hid hbv
  have HBX := Lib.hid hbx
  have HBM := Lib.hid hbm
  clear hbv hbx hbm
  generalize D.sector c4 2 = BB at *
  generalize D.sector c4 1 = XX at *
  generalize D.sector d1 1 = WW at *
  have hbA : i ≠ 2 → A = BB := fun h => (HL2.out.1 h).symm
  have hxW : i ≠ 1 → WW = XX := fun h => (HL2.out.2 h).symm
  clear HL2
  by_cases hi2 : i = 2
  · have hX := hxW (by omega)
    subst hX
    subst hi2
    clear hbA hxW
    by_cases hWM : WW = M
    · have hne : (WW == M) = true := by rw [beq_iff_eq]; exact hWM
      clear hWM
      have hcm : ∀ w', Ext w21 w' → (convert 31 9 (.slice (some ⟨bm, 0, none⟩) 512 512)).run Try.prog w' = .ok (.string ⟨M.toArray⟩) w' := fun w' hx => HBM.out.str w' hx
      have hcl : ∀ w', Ext w21 w' → w'.cell? ⟨og, 1, none⟩ = some (.string ⟨WW.toArray⟩) := fun w' hx => hx.cell hcw1
      have hxd := Ext.of_drew w21
      have hcx : ∀ w', Ext w21 w' → (convert 31 9 (.slice xa WW.length xc)).run Try.prog w' = .ok (.string ⟨WW.toArray⟩) w' := fun w' hx => HBX.out.str w' hx
      have hHeld := hxd
      go_wp2_with fail
      refine wp_region_C (fun w' => Ext w21 w') 38 (by kernel_rfl) ?_
      generalize w21.drew = wz at *
      (refine wpAnyC_take [38] (i := 0) (oi := ⟨some 100, _, _, _, _, _⟩) (v := ?_) rfl (by kernel_rfl) (by kernel_rfl) (by kernel_rfl) (by kernel_rfl) (fun _ _ _ h => h) (Or.inl ⟨by rfl, ?_⟩) hHeld ?_; rotate_left; (focus (intro w hSw; (skip); go_simp; first | done | with_reducible rfl)); try simp only [Act.put, List.setIfInBounds_toArray, List.set_cons_zero, List.set_cons_succ])
      (refine wpAnyC_take [38] (i := 1) (oi := ⟨some 101, _, _, _, _, _⟩) (v := ?_) rfl (by kernel_rfl) (by kernel_rfl) (by kernel_rfl) (by kernel_rfl) (fun _ _ _ h => h) (Or.inl ⟨by rfl, ?_⟩) hHeld ?_; rotate_left; (focus (intro w hSw; (skip); go_simp; first | done | with_reducible rfl)); try simp only [Act.put, List.setIfInBounds_toArray, List.set_cons_zero, List.set_cons_succ])
      (refine wpAnyC_take [38] (i := 2) (oi := ⟨some 102, _, _, _, _, _⟩) (v := ?_) rfl (by kernel_rfl) (by kernel_rfl) (by kernel_rfl) (by kernel_rfl) (fun _ _ _ h => h) (Or.inl ⟨by rfl, ?_⟩) hHeld ?_; rotate_left; (focus (intro w hSw; (skip); go_simp; first | done | with_reducible rfl)); try simp only [Act.put, List.setIfInBounds_toArray, List.set_cons_zero, List.set_cons_succ])
      (refine wpAnyC_take [38] (i := 3) (oi := ⟨some 103, _, _, _, _, _⟩) (v := ?_) rfl (by kernel_rfl) (by kernel_rfl) (by kernel_rfl) (by kernel_rfl) (fun _ _ _ h => h) (Or.inl ⟨by rfl, ?_⟩) hHeld ?_; rotate_left; (focus (intro w hSw; (skip); go_simp; first | done | with_reducible rfl)); try simp only [Act.put, List.setIfInBounds_toArray, List.set_cons_zero, List.set_cons_succ])
      (refine wpAnyC_take [38] (i := 4) (oi := ⟨some 104, _, _, _, _, _⟩) (v := ?_) rfl (by kernel_rfl) (by kernel_rfl) (by kernel_rfl) (by kernel_rfl) (fun _ _ _ h => h) (Or.inl ⟨by rfl, ?_⟩) hHeld ?_; rotate_left; (focus (intro w hSw; (skip); go_simp; first | done | with_reducible rfl)); try simp only [Act.put, List.setIfInBounds_toArray, List.set_cons_zero, List.set_cons_succ])
      (refine wpAnyC_take [6, 18, 19, 29, 38] (i := 5) (oi := ⟨some 105, _, _, _, _, _⟩) (v := ?_) rfl (by kernel_rfl) (by kernel_rfl) (by kernel_rfl) (by kernel_rfl) (fun _ _ _ h => h) (Or.inl ⟨by rfl, ?_⟩) hHeld ?_; rotate_left; (focus (intro w hSw; (skip); go_simp; first | done | with_reducible rfl)); try simp only [Act.put, List.setIfInBounds_toArray, List.set_cons_zero, List.set_cons_succ])
      (refine wpAnyC_take [18, 19, 29, 38] (i := 6) (oi := ⟨some 106, _, _, _, _, _⟩) (v := ?_) rfl (by kernel_rfl) (by kernel_rfl) (by kernel_rfl) (by kernel_rfl) (fun _ _ _ h => h) (Or.inl ⟨by rfl, ?_⟩) hHeld ?_; rotate_left; (focus (intro w hSw; (skip); go_simp; first | done | with_reducible rfl)); try simp only [Act.put, List.setIfInBounds_toArray, List.set_cons_zero, List.set_cons_succ])
      (refine wpAnyC_take [8, 9, 14, 19, 29, 38] (i := 7) (oi := ⟨some 107, _, _, _, _, _⟩) (v := ?_) rfl (by kernel_rfl) (by kernel_rfl) (by kernel_rfl) (by kernel_rfl) (fun _ _ _ h => h) (Or.inl ⟨by rfl, ?_⟩) hHeld ?_; rotate_left; (focus (intro w hSw; (skip); go_simp; first | done | with_reducible rfl)); try simp only [Act.put, List.setIfInBounds_toArray, List.set_cons_zero, List.set_cons_succ])
      (refine wpAnyC_take [9, 14, 19, 29, 38] (i := 8) (oi := ⟨some 108, _, _, _, _, _⟩) (v := ?_) rfl (by kernel_rfl) (by kernel_rfl) (by kernel_rfl) (by kernel_rfl) (fun _ _ _ h => h) (Or.inl ⟨by rfl, ?_⟩) hHeld ?_; rotate_left; (focus (intro w hSw; (skip); go_simp; first | done | with_reducible rfl)); try simp only [Act.put, List.setIfInBounds_toArray, List.set_cons_zero, List.set_cons_succ])
      (refine wpAnyC_take [14, 19, 29, 38] (i := 9) (oi := ⟨some 109, _, _, _, _, _⟩) (v := ?_) rfl (by kernel_rfl) (by kernel_rfl) (by kernel_rfl) (by kernel_rfl) (fun _ _ _ h => h) (Or.inl ⟨by rfl, ?_⟩) hHeld ?_; rotate_left; (focus (intro w hSw; (skip); go_simp; first | done | with_reducible rfl)); try simp only [Act.put, List.setIfInBounds_toArray, List.set_cons_zero, List.set_cons_succ])
      (refine wpAnyC_take [11, 16, 17, 18, 19, 29, 38] (i := 10) (oi := ⟨some 110, _, _, _, _, _⟩) (v := undef) rfl (by kernel_rfl) (by kernel_rfl) (by kernel_rfl) (by kernel_rfl) (fun _ _ _ h => h) (Or.inr ⟨by rfl, rfl⟩) hHeld ?_; try simp only [Act.put, List.setIfInBounds_toArray, List.set_cons_zero, List.set_cons_succ])
      (refine wpAnyC_take [16, 17, 18, 19, 29, 38] (i := 11) (oi := ⟨some 111, _, _, _, _, _⟩) (v := undef) rfl (by kernel_rfl) (by kernel_rfl) (by kernel_rfl) (by kernel_rfl) (fun _ _ _ h => h) (Or.inr ⟨by rfl, rfl⟩) hHeld ?_; try simp only [Act.put, List.setIfInBounds_toArray, List.set_cons_zero, List.set_cons_succ])
      (refine wpAnyC_take [13, 14, 19, 29, 38] (i := 12) (oi := ⟨some 112, _, _, _, _, _⟩) (v := undef) rfl (by kernel_rfl) (by kernel_rfl) (by kernel_rfl) (by kernel_rfl) (fun _ _ _ h => h) (Or.inr ⟨by rfl, rfl⟩) hHeld ?_; try simp only [Act.put, List.setIfInBounds_toArray, List.set_cons_zero, List.set_cons_succ])
      (refine wpAnyC_take [14, 19, 29, 38] (i := 13) (oi := ⟨some 113, _, _, _, _, _⟩) (v := undef) rfl (by kernel_rfl) (by kernel_rfl) (by kernel_rfl) (by kernel_rfl) (fun _ _ _ h => h) (Or.inr ⟨by rfl, rfl⟩) hHeld ?_; try simp only [Act.put, List.setIfInBounds_toArray, List.set_cons_zero, List.set_cons_succ])
      (refine wpAnyC_take [19, 29, 38] (i := 14) (oi := ⟨some 114, _, _, _, _, _⟩) (v := undef) rfl (by kernel_rfl) (by kernel_rfl) (by kernel_rfl) (by kernel_rfl) (fun _ _ _ h => h) (Or.inr ⟨by rfl, rfl⟩) hHeld ?_; try simp only [Act.put, List.setIfInBounds_toArray, List.set_cons_zero, List.set_cons_succ])
      (refine wpAnyC_take [16, 17, 18, 19, 29, 38] (i := 15) (oi := ⟨some 115, _, _, _, _, _⟩) (v := undef) rfl (by kernel_rfl) (by kernel_rfl) (by kernel_rfl) (by kernel_rfl) (fun _ _ _ h => h) (Or.inr ⟨by rfl, rfl⟩) hHeld ?_; try simp only [Act.put, List.setIfInBounds_toArray, List.set_cons_zero, List.set_cons_succ])
      (refine wpAnyC_take [17, 18, 19, 29, 38] (i := 16) (oi := ⟨some 116, _, _, _, _, _⟩) (v := undef) rfl (by kernel_rfl) (by kernel_rfl) (by kernel_rfl) (by kernel_rfl) (fun _ _ _ h => h) (Or.inr ⟨by rfl, rfl⟩) hHeld ?_; try simp only [Act.put, List.setIfInBounds_toArray, List.set_cons_zero, List.set_cons_succ])
      (refine wpAnyC_take [18, 19, 29, 38] (i := 17) (oi := ⟨some 117, _, _, _, _, _⟩) (v := ?_) rfl (by kernel_rfl) (by kernel_rfl) (by kernel_rfl) (by kernel_rfl) (fun _ _ _ h => h) (Or.inl ⟨by rfl, ?_⟩) hHeld ?_; rotate_left; (focus (intro w hSw; (skip); go_simp; first | done | with_reducible rfl)); try simp only [Act.put, List.setIfInBounds_toArray, List.set_cons_zero, List.set_cons_succ])
      (refine wpAnyC_take [19, 29, 38] (i := 18) (oi := ⟨some 118, _, _, _, _, _⟩) (v := ?_) rfl (by kernel_rfl) (by kernel_rfl) (by kernel_rfl) (by kernel_rfl) (fun _ _ _ h => h) (Or.inl ⟨by rfl, ?_⟩) hHeld ?_; rotate_left; (focus (intro w hSw; (skip); go_simp; first | done | with_reducible rfl)); try simp only [Act.put, List.setIfInBounds_toArray, List.set_cons_zero, List.set_cons_succ])
      (refine wpAnyC_take [29, 38] (i := 19) (oi := ⟨some 119, _, _, _, _, _⟩) (v := ?_) rfl (by kernel_rfl) (by kernel_rfl) (by kernel_rfl) (by kernel_rfl) (fun _ _ _ h => h) (Or.inl ⟨by rfl, ?_⟩) hHeld ?_; rotate_left; (focus (intro w hSw; (skip); go_simp; first | done | with_reducible rfl)); try simp only [Act.put, List.setIfInBounds_toArray, List.set_cons_zero, List.set_cons_succ])
      (refine wpAnyC_take [21, 22, 29, 38] (i := 20) (oi := ⟨some 120, _, _, _, _, _⟩) (v := ?_) rfl (by kernel_rfl) (by kernel_rfl) (by kernel_rfl) (by kernel_rfl) (fun _ _ _ h => h) (Or.inl ⟨by rfl, ?_⟩) hHeld ?_; rotate_left; (focus (intro w hSw; (skip); go_simp; first | done | with_reducible rfl)); try simp only [Act.put, List.setIfInBounds_toArray, List.set_cons_zero, List.set_cons_succ])
      (refine wpAnyC_take [22, 29, 38] (i := 21) (oi := ⟨some 121, _, _, _, _, _⟩) (v := ?_) rfl (by kernel_rfl) (by kernel_rfl) (by kernel_rfl) (by kernel_rfl) (fun _ _ _ h => h) (Or.inl ⟨by rfl, ?_⟩) hHeld ?_; rotate_left; (focus (intro w hSw; (skip); go_simp; first | done | with_reducible rfl)); try simp only [Act.put, List.setIfInBounds_toArray, List.set_cons_zero, List.set_cons_succ])
      (refine wpAnyC_take [29, 38] (i := 22) (oi := ⟨some 122, _, _, _, _, _⟩) (v := ?_) rfl (by kernel_rfl) (by kernel_rfl) (by kernel_rfl) (by kernel_rfl) (fun _ _ _ h => h) (Or.inl ⟨by rfl, ?_⟩) hHeld ?_; rotate_left; (focus (intro w hSw; (skip); go_simp; first | done | with_reducible rfl)); try simp only [Act.put, List.setIfInBounds_toArray, List.set_cons_zero, List.set_cons_succ])
      (refine wpAnyC_take [24, 27, 28, 29, 38] (i := 23) (oi := ⟨some 123, _, _, _, _, _⟩) (v := ?_) rfl (by kernel_rfl) (by kernel_rfl) (by kernel_rfl) (by kernel_rfl) (fun _ _ _ h => h) (Or.inl ⟨by rfl, ?_⟩) hHeld ?_; rotate_left; (focus (intro w hSw; (skip); go_simp; first | done | with_reducible rfl)); try simp only [Act.put, List.setIfInBounds_toArray, List.set_cons_zero, List.set_cons_succ])
      (refine wpAnyC_take [27, 28, 29, 38] (i := 24) (oi := ⟨some 124, _, _, _, _, _⟩) (v := ?_) rfl (by kernel_rfl) (by kernel_rfl) (by kernel_rfl) (by kernel_rfl) (fun _ _ _ h => h) (Or.inl ⟨by rfl, ?_⟩) hHeld ?_; rotate_left; (focus (intro w hSw; (have q1 := hcx w hSw); go_simp; first | done | with_reducible rfl)); try simp only [Act.put, List.setIfInBounds_toArray, List.set_cons_zero, List.set_cons_succ])
      (refine wpAnyC_take [26, 27, 28, 29, 38] (i := 25) (oi := ⟨some 125, _, _, _, _, _⟩) (v := ?_) rfl (by kernel_rfl) (by kernel_rfl) (by kernel_rfl) (by kernel_rfl) (fun _ _ _ h => h) (Or.inl ⟨by rfl, ?_⟩) hHeld ?_; rotate_left; (focus (intro w hSw; (skip); go_simp; first | done | with_reducible rfl)); try simp only [Act.put, List.setIfInBounds_toArray, List.set_cons_zero, List.set_cons_succ])
      (refine wpAnyC_take [27, 28, 29, 38] (i := 26) (oi := ⟨some 126, _, _, _, _, _⟩) (v := ?_) rfl (by kernel_rfl) (by kernel_rfl) (by kernel_rfl) (by kernel_rfl) (fun _ _ _ h => h) (Or.inl ⟨by rfl, ?_⟩) hHeld ?_; rotate_left; (focus (intro w hSw; (have q1 := hcm w hSw); go_simp; first | done | with_reducible rfl)); try simp only [Act.put, List.setIfInBounds_toArray, List.set_cons_zero, List.set_cons_succ])
      (refine wpAnyC_take [28, 29, 38] (i := 27) (oi := ⟨some 127, _, _, _, _, _⟩) (v := ?_) rfl (by kernel_rfl) (by kernel_rfl) (by kernel_rfl) (by kernel_rfl) (fun _ _ _ h => h) (Or.inl ⟨by rfl, ?_⟩) hHeld ?_; rotate_left; (focus (intro w hSw; (skip); go_simp; first | done | with_reducible rfl)); try simp only [Act.put, List.setIfInBounds_toArray, List.set_cons_zero, List.set_cons_succ])
      (refine wpAnyC_take [29, 38] (i := 28) (oi := ⟨some 128, _, _, _, _, _⟩) (v := ?_) rfl (by kernel_rfl) (by kernel_rfl) (by kernel_rfl) (by kernel_rfl) (fun _ _ _ h => h) (Or.inl ⟨by rfl, ?_⟩) hHeld ?_; rotate_left; (focus (intro w hSw; (skip); go_simp; first | done | with_reducible rfl)); try simp only [Act.put, List.setIfInBounds_toArray, List.set_cons_zero, List.set_cons_succ])
      (refine wpAnyC_take [38] (i := 29) (oi := ⟨some 129, _, _, _, _, _⟩) (v := ?_) rfl (by kernel_rfl) (by kernel_rfl) (by kernel_rfl) (by kernel_rfl) (fun _ _ _ h => h) (Or.inl ⟨by rfl, ?_⟩) hHeld ?_; rotate_left; (focus (intro w hSw; (skip); go_simp; first | done | with_reducible rfl)); try simp only [Act.put, List.setIfInBounds_toArray, List.set_cons_zero, List.set_cons_succ])
      (refine wpAnyC_take [31, 32, 35, 36, 37, 38] (i := 30) (oi := ⟨some 130, _, _, _, _, _⟩) (v := ?_) rfl (by kernel_rfl) (by kernel_rfl) (by kernel_rfl) (by kernel_rfl) (fun _ _ _ h => h) (Or.inl ⟨by rfl, ?_⟩) hHeld ?_; rotate_left; (focus (intro w hSw; (skip); go_simp; first | done | with_reducible rfl)); try simp only [Act.put, List.setIfInBounds_toArray, List.set_cons_zero, List.set_cons_succ])
      (refine wpAnyC_take [32, 35, 36, 37, 38] (i := 31) (oi := ⟨some 131, _, _, _, _, _⟩) (v := ?_) rfl (by kernel_rfl) (by kernel_rfl) (by kernel_rfl) (by kernel_rfl) (fun _ _ _ h => h) (Or.inl ⟨by rfl, ?_⟩) hHeld ?_; rotate_left; (focus (intro w hSw; (skip); go_simp; first | done | with_reducible rfl)); try simp only [Act.put, List.setIfInBounds_toArray, List.set_cons_zero, List.set_cons_succ])
      (refine wpAnyC_take [35, 36, 37, 38] (i := 32) (oi := ⟨some 132, _, _, _, _, _⟩) (v := ?_) rfl (by kernel_rfl) (by kernel_rfl) (by kernel_rfl) (by kernel_rfl) (fun _ _ _ h => h) (Or.inl ⟨by rfl, ?_⟩) hHeld ?_; rotate_left; (focus (intro w hSw; (have q1 := hcl w hSw); go_simp; first | done | with_reducible rfl)); try simp only [Act.put, List.setIfInBounds_toArray, List.set_cons_zero, List.set_cons_succ])
      (refine wpAnyC_take [34, 35, 36, 37, 38] (i := 33) (oi := ⟨some 133, _, _, _, _, _⟩) (v := ?_) rfl (by kernel_rfl) (by kernel_rfl) (by kernel_rfl) (by kernel_rfl) (fun _ _ _ h => h) (Or.inl ⟨by rfl, ?_⟩) hHeld ?_; rotate_left; (focus (intro w hSw; (skip); go_simp; first | done | with_reducible rfl)); try simp only [Act.put, List.setIfInBounds_toArray, List.set_cons_zero, List.set_cons_succ])
      (refine wpAnyC_take [35, 36, 37, 38] (i := 34) (oi := ⟨some 134, _, _, _, _, _⟩) (v := ?_) rfl (by kernel_rfl) (by kernel_rfl) (by kernel_rfl) (by kernel_rfl) (fun _ _ _ h => h) (Or.inl ⟨by rfl, ?_⟩) hHeld ?_; rotate_left; (focus (intro w hSw; (have q1 := hcm w hSw); go_simp; first | done | with_reducible rfl)); try simp only [Act.put, List.setIfInBounds_toArray, List.set_cons_zero, List.set_cons_succ])
      (refine wpAnyC_take [36, 37, 38] (i := 35) (oi := ⟨some 135, _, _, _, _, _⟩) (v := ?_) rfl (by kernel_rfl) (by kernel_rfl) (by kernel_rfl) (by kernel_rfl) (fun _ _ _ h => h) (Or.inl ⟨by rfl, ?_⟩) hHeld ?_; rotate_left; (focus (intro w hSw; (skip); go_simp; first | done | with_reducible rfl)); try simp only [Act.put, List.setIfInBounds_toArray, List.set_cons_zero, List.set_cons_succ])
      (refine wpAnyC_take [37, 38] (i := 36) (oi := ⟨some 136, _, _, _, _, _⟩) (v := ?_) rfl (by kernel_rfl) (by kernel_rfl) (by kernel_rfl) (by kernel_rfl) (fun _ _ _ h => h) (Or.inl ⟨by rfl, ?_⟩) hHeld ?_; rotate_left; (focus (intro w hSw; (skip); go_simp; first | done | with_reducible rfl)); try simp only [Act.put, List.setIfInBounds_toArray, List.set_cons_zero, List.set_cons_succ])
      (refine wpAnyC_take [38] (i := 37) (oi := ⟨some 137, _, _, _, _, _⟩) (v := ?_) rfl (by kernel_rfl) (by kernel_rfl) (by kernel_rfl) (by kernel_rfl) (fun _ _ _ h => h) (Or.inl ⟨by rfl, ?_⟩) hHeld ?_; rotate_left; (focus (intro w hSw; (skip); go_simp; first | done | with_reducible rfl)); try simp only [Act.put, List.setIfInBounds_toArray, List.set_cons_zero, List.set_cons_succ])
      refine wpAnyC_c (oi := ⟨some 6, _, _, _, _, _⟩) rfl (by kernel_rfl) (fun K hK => ?_)
      rw [if_pos (by rfl)]
      go_simp
      refine hK.out _ _ ?_
      clear hK K
      try simp only [Act.put, List.setIfInBounds_toArray, List.set_cons_zero, List.set_cons_succ]
      refine wpAny_done (by kernel_rfl) ?_ _
      go_wp2
      go_ret
      exact ⟨rfl, HXX.out.trans hHeld⟩
    · have hne : (WW == M) = false := by rw [beq_eq_false_iff_ne]; exact hWM
      clear hWM
      have hcm : ∀ w', Ext w21 w' → (convert 31 9 (.slice (some ⟨bm, 0, none⟩) 512 512)).run Try.prog w' = .ok (.string ⟨M.toArray⟩) w' := fun w' hx => HBM.out.str w' hx
      have hcl : ∀ w', Ext w21 w' → w'.cell? ⟨og, 1, none⟩ = some (.string ⟨WW.toArray⟩) := fun w' hx => hx.cell hcw1
      have hxd := Ext.of_drew w21
      have hcx : ∀ w', Ext w21 w' → (convert 31 9 (.slice xa WW.length xc)).run Try.prog w' = .ok (.string ⟨WW.toArray⟩) w' := fun w' hx => HBX.out.str w' hx
      have hHeld := hxd
      go_wp2_with fail
      refine wp_region_C (fun w' => Ext w21 w') 38 (by kernel_rfl) ?_
      generalize w21.drew = wz at *
      (refine wpAnyC_take [38] (i := 0) (oi := ⟨some 100, _, _, _, _, _⟩) (v := ?_) rfl (by kernel_rfl) (by kernel_rfl) (by kernel_rfl) (by kernel_rfl) (fun _ _ _ h => h) (Or.inl ⟨by rfl, ?_⟩) hHeld ?_; rotate_left; (focus (intro w hSw; (skip); go_simp; first | done | with_reducible rfl)); try simp only [Act.put, List.setIfInBounds_toArray, List.set_cons_zero, List.set_cons_succ])
      (refine wpAnyC_take [38] (i := 1) (oi := ⟨some 101, _, _, _, _, _⟩) (v := ?_) rfl (by kernel_rfl) (by kernel_rfl) (by kernel_rfl) (by kernel_rfl) (fun _ _ _ h => h) (Or.inl ⟨by rfl, ?_⟩) hHeld ?_; rotate_left; (focus (intro w hSw; (skip); go_simp; first | done | with_reducible rfl)); try simp only [Act.put, List.setIfInBounds_toArray, List.set_cons_zero, List.set_cons_succ])
      (refine wpAnyC_take [38] (i := 2) (oi := ⟨some 102, _, _, _, _, _⟩) (v := ?_) rfl (by kernel_rfl) (by kernel_rfl) (by kernel_rfl) (by kernel_rfl) (fun _ _ _ h => h) (Or.inl ⟨by rfl, ?_⟩) hHeld ?_; rotate_left; (focus (intro w hSw; (skip); go_simp; first | done | with_reducible rfl)); try simp only [Act.put, List.setIfInBounds_toArray, List.set_cons_zero, List.set_cons_succ])
      (refine wpAnyC_take [38] (i := 3) (oi := ⟨some 103, _, _, _, _, _⟩) (v := ?_) rfl (by kernel_rfl) (by kernel_rfl) (by kernel_rfl) (by kernel_rfl) (fun _ _ _ h => h) (Or.inl ⟨by rfl, ?_⟩) hHeld ?_; rotate_left; (focus (intro w hSw; (skip); go_simp; first | done | with_reducible rfl)); try simp only [Act.put, List.setIfInBounds_toArray, List.set_cons_zero, List.set_cons_succ])
      (refine wpAnyC_take [38] (i := 4) (oi := ⟨some 104, _, _, _, _, _⟩) (v := ?_) rfl (by kernel_rfl) (by kernel_rfl) (by kernel_rfl) (by kernel_rfl) (fun _ _ _ h => h) (Or.inl ⟨by rfl, ?_⟩) hHeld ?_; rotate_left; (focus (intro w hSw; (skip); go_simp; first | done | with_reducible rfl)); try simp only [Act.put, List.setIfInBounds_toArray, List.set_cons_zero, List.set_cons_succ])
      (refine wpAnyC_take [6, 18, 19, 29, 38] (i := 5) (oi := ⟨some 105, _, _, _, _, _⟩) (v := ?_) rfl (by kernel_rfl) (by kernel_rfl) (by kernel_rfl) (by kernel_rfl) (fun _ _ _ h => h) (Or.inl ⟨by rfl, ?_⟩) hHeld ?_; rotate_left; (focus (intro w hSw; (skip); go_simp; first | done | with_reducible rfl)); try simp only [Act.put, List.setIfInBounds_toArray, List.set_cons_zero, List.set_cons_succ])
      (refine wpAnyC_take [18, 19, 29, 38] (i := 6) (oi := ⟨some 106, _, _, _, _, _⟩) (v := ?_) rfl (by kernel_rfl) (by kernel_rfl) (by kernel_rfl) (by kernel_rfl) (fun _ _ _ h => h) (Or.inl ⟨by rfl, ?_⟩) hHeld ?_; rotate_left; (focus (intro w hSw; (skip); go_simp; first | done | with_reducible rfl)); try simp only [Act.put, List.setIfInBounds_toArray, List.set_cons_zero, List.set_cons_succ])
      (refine wpAnyC_take [8, 9, 14, 19, 29, 38] (i := 7) (oi := ⟨some 107, _, _, _, _, _⟩) (v := ?_) rfl (by kernel_rfl) (by kernel_rfl) (by kernel_rfl) (by kernel_rfl) (fun _ _ _ h => h) (Or.inl ⟨by rfl, ?_⟩) hHeld ?_; rotate_left; (focus (intro w hSw; (skip); go_simp; first | done | with_reducible rfl)); try simp only [Act.put, List.setIfInBounds_toArray, List.set_cons_zero, List.set_cons_succ])
      (refine wpAnyC_take [9, 14, 19, 29, 38] (i := 8) (oi := ⟨some 108, _, _, _, _, _⟩) (v := ?_) rfl (by kernel_rfl) (by kernel_rfl) (by kernel_rfl) (by kernel_rfl) (fun _ _ _ h => h) (Or.inl ⟨by rfl, ?_⟩) hHeld ?_; rotate_left; (focus (intro w hSw; (skip); go_simp; first | done | with_reducible rfl)); try simp only [Act.put, List.setIfInBounds_toArray, List.set_cons_zero, List.set_cons_succ])
      (refine wpAnyC_take [14, 19, 29, 38] (i := 9) (oi := ⟨some 109, _, _, _, _, _⟩) (v := ?_) rfl (by kernel_rfl) (by kernel_rfl) (by kernel_rfl) (by kernel_rfl) (fun _ _ _ h => h) (Or.inl ⟨by rfl, ?_⟩) hHeld ?_; rotate_left; (focus (intro w hSw; (skip); go_simp; first | done | with_reducible rfl)); try simp only [Act.put, List.setIfInBounds_toArray, List.set_cons_zero, List.set_cons_succ])
      (refine wpAnyC_take [11, 16, 17, 18, 19, 29, 38] (i := 10) (oi := ⟨some 110, _, _, _, _, _⟩) (v := undef) rfl (by kernel_rfl) (by kernel_rfl) (by kernel_rfl) (by kernel_rfl) (fun _ _ _ h => h) (Or.inr ⟨by rfl, rfl⟩) hHeld ?_; try simp only [Act.put, List.setIfInBounds_toArray, List.set_cons_zero, List.set_cons_succ])
      (refine wpAnyC_take [16, 17, 18, 19, 29, 38] (i := 11) (oi := ⟨some 111, _, _, _, _, _⟩) (v := undef) rfl (by kernel_rfl) (by kernel_rfl) (by kernel_rfl) (by kernel_rfl) (fun _ _ _ h => h) (Or.inr ⟨by rfl, rfl⟩) hHeld ?_; try simp only [Act.put, List.setIfInBounds_toArray, List.set_cons_zero, List.set_cons_succ])
      (refine wpAnyC_take [13, 14, 19, 29, 38] (i := 12) (oi := ⟨some 112, _, _, _, _, _⟩) (v := undef) rfl (by kernel_rfl) (by kernel_rfl) (by kernel_rfl) (by kernel_rfl) (fun _ _ _ h => h) (Or.inr ⟨by rfl, rfl⟩) hHeld ?_; try simp only [Act.put, List.setIfInBounds_toArray, List.set_cons_zero, List.set_cons_succ])
      (refine wpAnyC_take [14, 19, 29, 38] (i := 13) (oi := ⟨some 113, _, _, _, _, _⟩) (v := undef) rfl (by kernel_rfl) (by kernel_rfl) (by kernel_rfl) (by kernel_rfl) (fun _ _ _ h => h) (Or.inr ⟨by rfl, rfl⟩) hHeld ?_; try simp only [Act.put, List.setIfInBounds_toArray, List.set_cons_zero, List.set_cons_succ])
      (refine wpAnyC_take [19, 29, 38] (i := 14) (oi := ⟨some 114, _, _, _, _, _⟩) (v := undef) rfl (by kernel_rfl) (by kernel_rfl) (by kernel_rfl) (by kernel_rfl) (fun _ _ _ h => h) (Or.inr ⟨by rfl, rfl⟩) hHeld ?_; try simp only [Act.put, List.setIfInBounds_toArray, List.set_cons_zero, List.set_cons_succ])
      (refine wpAnyC_take [16, 17, 18, 19, 29, 38] (i := 15) (oi := ⟨some 115, _, _, _, _, _⟩) (v := undef) rfl (by kernel_rfl) (by kernel_rfl) (by kernel_rfl) (by kernel_rfl) (fun _ _ _ h => h) (Or.inr ⟨by rfl, rfl⟩) hHeld ?_; try simp only [Act.put, List.setIfInBounds_toArray, List.set_cons_zero, List.set_cons_succ])
      (refine wpAnyC_take [17, 18, 19, 29, 38] (i := 16) (oi := ⟨some 116, _, _, _, _, _⟩) (v := undef) rfl (by kernel_rfl) (by kernel_rfl) (by kernel_rfl) (by kernel_rfl) (fun _ _ _ h => h) (Or.inr ⟨by rfl, rfl⟩) hHeld ?_; try simp only [Act.put, List.setIfInBounds_toArray, List.set_cons_zero, List.set_cons_succ])
      (refine wpAnyC_take [18, 19, 29, 38] (i := 17) (oi := ⟨some 117, _, _, _, _, _⟩) (v := ?_) rfl (by kernel_rfl) (by kernel_rfl) (by kernel_rfl) (by kernel_rfl) (fun _ _ _ h => h) (Or.inl ⟨by rfl, ?_⟩) hHeld ?_; rotate_left; (focus (intro w hSw; (skip); go_simp; first | done | with_reducible rfl)); try simp only [Act.put, List.setIfInBounds_toArray, List.set_cons_zero, List.set_cons_succ])
      (refine wpAnyC_take [19, 29, 38] (i := 18) (oi := ⟨some 118, _, _, _, _, _⟩) (v := ?_) rfl (by kernel_rfl) (by kernel_rfl) (by kernel_rfl) (by kernel_rfl) (fun _ _ _ h => h) (Or.inl ⟨by rfl, ?_⟩) hHeld ?_; rotate_left; (focus (intro w hSw; (skip); go_simp; first | done | with_reducible rfl)); try simp only [Act.put, List.setIfInBounds_toArray, List.set_cons_zero, List.set_cons_succ])
      (refine wpAnyC_take [29, 38] (i := 19) (oi := ⟨some 119, _, _, _, _, _⟩) (v := ?_) rfl (by kernel_rfl) (by kernel_rfl) (by kernel_rfl) (by kernel_rfl) (fun _ _ _ h => h) (Or.inl ⟨by rfl, ?_⟩) hHeld ?_; rotate_left; (focus (intro w hSw; (skip); go_simp; first | done | with_reducible rfl)); try simp only [Act.put, List.setIfInBounds_toArray, List.set_cons_zero, List.set_cons_succ])
      (refine wpAnyC_take [21, 22, 29, 38] (i := 20) (oi := ⟨some 120, _, _, _, _, _⟩) (v := ?_) rfl (by kernel_rfl) (by kernel_rfl) (by kernel_rfl) (by kernel_rfl) (fun _ _ _ h => h) (Or.inl ⟨by rfl, ?_⟩) hHeld ?_; rotate_left; (focus (intro w hSw; (skip); go_simp; first | done | with_reducible rfl)); try simp only [Act.put, List.setIfInBounds_toArray, List.set_cons_zero, List.set_cons_succ])
      (refine wpAnyC_take [22, 29, 38] (i := 21) (oi := ⟨some 121, _, _, _, _, _⟩) (v := ?_) rfl (by kernel_rfl) (by kernel_rfl) (by kernel_rfl) (by kernel_rfl) (fun _ _ _ h => h) (Or.inl ⟨by rfl, ?_⟩) hHeld ?_; rotate_left; (focus (intro w hSw; (skip); go_simp; first | done | with_reducible rfl)); try simp only [Act.put, List.setIfInBounds_toArray, List.set_cons_zero, List.set_cons_succ])
      (refine wpAnyC_take [29, 38] (i := 22) (oi := ⟨some 122, _, _, _, _, _⟩) (v := ?_) rfl (by kernel_rfl) (by kernel_rfl) (by kernel_rfl) (by kernel_rfl) (fun _ _ _ h => h) (Or.inl ⟨by rfl, ?_⟩) hHeld ?_; rotate_left; (focus (intro w hSw; (skip); go_simp; first | done | with_reducible rfl)); try simp only [Act.put, List.setIfInBounds_toArray, List.set_cons_zero, List.set_cons_succ])
      (refine wpAnyC_take [24, 27, 28, 29, 38] (i := 23) (oi := ⟨some 123, _, _, _, _, _⟩) (v := ?_) rfl (by kernel_rfl) (by kernel_rfl) (by kernel_rfl) (by kernel_rfl) (fun _ _ _ h => h) (Or.inl ⟨by rfl, ?_⟩) hHeld ?_; rotate_left; (focus (intro w hSw; (skip); go_simp; first | done | with_reducible rfl)); try simp only [Act.put, List.setIfInBounds_toArray, List.set_cons_zero, List.set_cons_succ])
      (refine wpAnyC_take [27, 28, 29, 38] (i := 24) (oi := ⟨some 124, _, _, _, _, _⟩) (v := ?_) rfl (by kernel_rfl) (by kernel_rfl) (by kernel_rfl) (by kernel_rfl) (fun _ _ _ h => h) (Or.inl ⟨by rfl, ?_⟩) hHeld ?_; rotate_left; (focus (intro w hSw; (have q1 := hcx w hSw); go_simp; first | done | with_reducible rfl)); try simp only [Act.put, List.setIfInBounds_toArray, List.set_cons_zero, List.set_cons_succ])
      (refine wpAnyC_take [26, 27, 28, 29, 38] (i := 25) (oi := ⟨some 125, _, _, _, _, _⟩) (v := ?_) rfl (by kernel_rfl) (by kernel_rfl) (by kernel_rfl) (by kernel_rfl) (fun _ _ _ h => h) (Or.inl ⟨by rfl, ?_⟩) hHeld ?_; rotate_left; (focus (intro w hSw; (skip); go_simp; first | done | with_reducible rfl)); try simp only [Act.put, List.setIfInBounds_toArray, List.set_cons_zero, List.set_cons_succ])
      (refine wpAnyC_take [27, 28, 29, 38] (i := 26) (oi := ⟨some 126, _, _, _, _, _⟩) (v := ?_) rfl (by kernel_rfl) (by kernel_rfl) (by kernel_rfl) (by kernel_rfl) (fun _ _ _ h => h) (Or.inl ⟨by rfl, ?_⟩) hHeld ?_; rotate_left; (focus (intro w hSw; (have q1 := hcm w hSw); go_simp; first | done | with_reducible rfl)); try simp only [Act.put, List.setIfInBounds_toArray, List.set_cons_zero, List.set_cons_succ])
      (refine wpAnyC_take [28, 29, 38] (i := 27) (oi := ⟨some 127, _, _, _, _, _⟩) (v := ?_) rfl (by kernel_rfl) (by kernel_rfl) (by kernel_rfl) (by kernel_rfl) (fun _ _ _ h => h) (Or.inl ⟨by rfl, ?_⟩) hHeld ?_; rotate_left; (focus (intro w hSw; (skip); go_simp; first | done | with_reducible rfl)); try simp only [Act.put, List.setIfInBounds_toArray, List.set_cons_zero, List.set_cons_succ])
      (refine wpAnyC_take [29, 38] (i := 28) (oi := ⟨some 128, _, _, _, _, _⟩) (v := ?_) rfl (by kernel_rfl) (by kernel_rfl) (by kernel_rfl) (by kernel_rfl) (fun _ _ _ h => h) (Or.inl ⟨by rfl, ?_⟩) hHeld ?_; rotate_left; (focus (intro w hSw; (skip); go_simp; first | done | with_reducible rfl)); try simp only [Act.put, List.setIfInBounds_toArray, List.set_cons_zero, List.set_cons_succ])
      (refine wpAnyC_take [38] (i := 29) (oi := ⟨some 129, _, _, _, _, _⟩) (v := ?_) rfl (by kernel_rfl) (by kernel_rfl) (by kernel_rfl) (by kernel_rfl) (fun _ _ _ h => h) (Or.inl ⟨by rfl, ?_⟩) hHeld ?_; rotate_left; (focus (intro w hSw; (skip); go_simp; first | done | with_reducible rfl)); try simp only [Act.put, List.setIfInBounds_toArray, List.set_cons_zero, List.set_cons_succ])
      (refine wpAnyC_take [31, 32, 35, 36, 37, 38] (i := 30) (oi := ⟨some 130, _, _, _, _, _⟩) (v := undef) rfl (by kernel_rfl) (by kernel_rfl) (by kernel_rfl) (by kernel_rfl) (fun _ _ _ h => h) (Or.inr ⟨by rfl, rfl⟩) hHeld ?_; try simp only [Act.put, List.setIfInBounds_toArray, List.set_cons_zero, List.set_cons_succ])
      (refine wpAnyC_take [32, 35, 36, 37, 38] (i := 31) (oi := ⟨some 131, _, _, _, _, _⟩) (v := undef) rfl (by kernel_rfl) (by kernel_rfl) (by kernel_rfl) (by kernel_rfl) (fun _ _ _ h => h) (Or.inr ⟨by rfl, rfl⟩) hHeld ?_; try simp only [Act.put, List.setIfInBounds_toArray, List.set_cons_zero, List.set_cons_succ])
      (refine wpAnyC_take [35, 36, 37, 38] (i := 32) (oi := ⟨some 132, _, _, _, _, _⟩) (v := undef) rfl (by kernel_rfl) (by kernel_rfl) (by kernel_rfl) (by kernel_rfl) (fun _ _ _ h => h) (Or.inr ⟨by rfl, rfl⟩) hHeld ?_; try simp only [Act.put, List.setIfInBounds_toArray, List.set_cons_zero, List.set_cons_succ])
      (refine wpAnyC_take [34, 35, 36, 37, 38] (i := 33) (oi := ⟨some 133, _, _, _, _, _⟩) (v := undef) rfl (by kernel_rfl) (by kernel_rfl) (by kernel_rfl) (by kernel_rfl) (fun _ _ _ h => h) (Or.inr ⟨by rfl, rfl⟩) hHeld ?_; try simp only [Act.put, List.setIfInBounds_toArray, List.set_cons_zero, List.set_cons_succ])
      (refine wpAnyC_take [35, 36, 37, 38] (i := 34) (oi := ⟨some 134, _, _, _, _, _⟩) (v := undef) rfl (by kernel_rfl) (by kernel_rfl) (by kernel_rfl) (by kernel_rfl) (fun _ _ _ h => h) (Or.inr ⟨by rfl, rfl⟩) hHeld ?_; try simp only [Act.put, List.setIfInBounds_toArray, List.set_cons_zero, List.set_cons_succ])
      (refine wpAnyC_take [36, 37, 38] (i := 35) (oi := ⟨some 135, _, _, _, _, _⟩) (v := undef) rfl (by kernel_rfl) (by kernel_rfl) (by kernel_rfl) (by kernel_rfl) (fun _ _ _ h => h) (Or.inr ⟨by rfl, rfl⟩) hHeld ?_; try simp only [Act.put, List.setIfInBounds_toArray, List.set_cons_zero, List.set_cons_succ])
      (refine wpAnyC_take [37, 38] (i := 36) (oi := ⟨some 136, _, _, _, _, _⟩) (v := ?_) rfl (by kernel_rfl) (by kernel_rfl) (by kernel_rfl) (by kernel_rfl) (fun _ _ _ h => h) (Or.inl ⟨by rfl, ?_⟩) hHeld ?_; rotate_left; (focus (intro w hSw; (skip); go_simp; first | done | with_reducible rfl)); try simp only [Act.put, List.setIfInBounds_toArray, List.set_cons_zero, List.set_cons_succ])
      (refine wpAnyC_take [38] (i := 37) (oi := ⟨some 137, _, _, _, _, _⟩) (v := ?_) rfl (by kernel_rfl) (by kernel_rfl) (by kernel_rfl) (by kernel_rfl) (fun _ _ _ h => h) (Or.inl ⟨by rfl, ?_⟩) hHeld ?_; rotate_left; (focus (intro w hSw; (skip); go_simp; first | done | with_reducible rfl)); try simp only [Act.put, List.setIfInBounds_toArray, List.set_cons_zero, List.set_cons_succ])
      refine wpAnyC_c (oi := ⟨some 6, _, _, _, _, _⟩) rfl (by kernel_rfl) (fun K hK => ?_)
      rw [if_pos (by rfl)]
      go_simp
      refine hK.out _ _ ?_
      clear hK K
      try simp only [Act.put, List.setIfInBounds_toArray, List.set_cons_zero, List.set_cons_succ]
      refine wpAny_done (by kernel_rfl) ?_ _
      go_wp2
      go_ret
      exact ⟨rfl, HXX.out.trans hHeld⟩
  · have hB := hbA hi2
    subst hB
    have hi2b : (i == 2) = false := by rw [beq_eq_false_iff_ne]; exact hi2
    by_cases hi1 : i = 1
    · subst hi1
      clear hbA hxW hi2 hi2b
      have hcm : ∀ w', Ext w21 w' → (convert 31 9 (.slice (some ⟨bm, 0, none⟩) 512 512)).run Try.prog w' = .ok (.string ⟨M.toArray⟩) w' := fun w' hx => HBM.out.str w' hx
      have hcl : ∀ w', Ext w21 w' → w'.cell? ⟨og, 1, none⟩ = some (.string ⟨WW.toArray⟩) := fun w' hx => hx.cell hcw1
      have hxd := Ext.of_drew w21
      have hcv : ∀ w', Ext w21 w' → (convert 31 9 (.slice va A.length vc)).run Try.prog w' = .ok (.string ⟨A.toArray⟩) w' := fun w' hx => HBV.out.str w' hx
      have k1 := Lib.run_convert_bytes_const (P := Try.prog) w21.drew 31 5 #[.int .u8 119, .int .u8 97, .int .u8 105, .int .u8 116, .int .u8 115] 5 5 Try.underlying31 Try.underlying5
      have hb1 : Bs (w21.drew.alloc (.cells #[.int .u8 119, .int .u8 97, .int .u8 105, .int .u8 116, .int .u8 115] 5 (5, 6))) (.slice (some ⟨w21.drew.heap.size, 0, none⟩) 5 5) [119, 97, 105, 116, 115] := Bs.litM w21.drew [119, 97, 105, 116, 115] 5 (5, 6) (by simp [maxLen])
      have hx1 : Ext w21 (w21.drew.alloc (.cells #[.int .u8 119, .int .u8 97, .int .u8 105, .int .u8 116, .int .u8 115] 5 (5, 6))) := hxd.alloc _
      have hx1b : Ext w21 (w21.drew.alloc (.cells #[.int .u8 119, .int .u8 97, .int .u8 105, .int .u8 116, .int .u8 115] 5)) := hxd.alloc _
      have hHeld := hxd
      go_wp2_with fail
      refine wp_region_C (fun w' => Ext w21 w') 38 (by kernel_rfl) ?_
      generalize w21.drew = wz at *
      (refine wpAnyC_take [38] (i := 0) (oi := ⟨some 100, _, _, _, _, _⟩) (v := ?_) rfl (by kernel_rfl) (by kernel_rfl) (by kernel_rfl) (by kernel_rfl) (fun _ _ _ h => h) (Or.inl ⟨by rfl, ?_⟩) hHeld ?_; rotate_left; (focus (intro w hSw; (skip); go_simp; first | done | with_reducible rfl)); try simp only [Act.put, List.setIfInBounds_toArray, List.set_cons_zero, List.set_cons_succ])
      (refine wpAnyC_take [38] (i := 1) (oi := ⟨some 101, _, _, _, _, _⟩) (v := ?_) rfl (by kernel_rfl) (by kernel_rfl) (by kernel_rfl) (by kernel_rfl) (fun _ _ _ h => h) (Or.inl ⟨by rfl, ?_⟩) hHeld ?_; rotate_left; (focus (intro w hSw; (skip); go_simp; first | done | with_reducible rfl)); try simp only [Act.put, List.setIfInBounds_toArray, List.set_cons_zero, List.set_cons_succ])
      (refine wpAnyC_take [38] (i := 2) (oi := ⟨some 102, _, _, _, _, _⟩) (v := ?_) rfl (by kernel_rfl) (by kernel_rfl) (by kernel_rfl) (by kernel_rfl) (fun _ _ _ h => h) (Or.inl ⟨by rfl, ?_⟩) hHeld ?_; rotate_left; (focus (intro w hSw; (skip); go_simp; first | done | with_reducible rfl)); try simp only [Act.put, List.setIfInBounds_toArray, List.set_cons_zero, List.set_cons_succ])
      (refine wpAnyC_take [38] (i := 3) (oi := ⟨some 103, _, _, _, _, _⟩) (v := ?_) rfl (by kernel_rfl) (by kernel_rfl) (by kernel_rfl) (by kernel_rfl) (fun _ _ _ h => h) (Or.inl ⟨by rfl, ?_⟩) hHeld ?_; rotate_left; (focus (intro w hSw; (skip); go_simp; first | done | with_reducible rfl)); try simp only [Act.put, List.setIfInBounds_toArray, List.set_cons_zero, List.set_cons_succ])
      (refine wpAnyC_take [38] (i := 4) (oi := ⟨some 104, _, _, _, _, _⟩) (v := ?_) rfl (by kernel_rfl) (by kernel_rfl) (by kernel_rfl) (by kernel_rfl) (fun _ _ _ h => h) (Or.inl ⟨by rfl, ?_⟩) hHeld ?_; rotate_left; (focus (intro w hSw; (skip); go_simp; first | done | with_reducible rfl)); try simp only [Act.put, List.setIfInBounds_toArray, List.set_cons_zero, List.set_cons_succ])
      (refine wpAnyC_take [6, 18, 19, 29, 38] (i := 5) (oi := ⟨some 105, _, _, _, _, _⟩) (v := ?_) rfl (by kernel_rfl) (by kernel_rfl) (by kernel_rfl) (by kernel_rfl) (fun _ _ _ h => h) (Or.inl ⟨by rfl, ?_⟩) hHeld ?_; rotate_left; (focus (intro w hSw; (skip); go_simp; first | done | with_reducible rfl)); try simp only [Act.put, List.setIfInBounds_toArray, List.set_cons_zero, List.set_cons_succ])
      (refine wpAnyC_take [18, 19, 29, 38] (i := 6) (oi := ⟨some 106, _, _, _, _, _⟩) (v := ?_) rfl (by kernel_rfl) (by kernel_rfl) (by kernel_rfl) (by kernel_rfl) (fun _ _ _ h => h) (Or.inl ⟨by rfl, ?_⟩) hHeld ?_; rotate_left; (focus (intro w hSw; (skip); go_simp; first | done | with_reducible rfl)); try simp only [Act.put, List.setIfInBounds_toArray, List.set_cons_zero, List.set_cons_succ])
      (refine wpAnyC_take [8, 9, 14, 19, 29, 38] (i := 7) (oi := ⟨some 107, _, _, _, _, _⟩) (v := ?_) rfl (by kernel_rfl) (by kernel_rfl) (by kernel_rfl) (by kernel_rfl) (fun _ _ _ h => h) (Or.inl ⟨by rfl, ?_⟩) hHeld ?_; rotate_left; (focus (intro w hSw; (skip); go_simp; first | done | with_reducible rfl)); try simp only [Act.put, List.setIfInBounds_toArray, List.set_cons_zero, List.set_cons_succ])
      (refine wpAnyC_take [9, 14, 19, 29, 38] (i := 8) (oi := ⟨some 108, _, _, _, _, _⟩) (v := ?_) rfl (by kernel_rfl) (by kernel_rfl) (by kernel_rfl) (by kernel_rfl) (fun _ _ _ h => h) (Or.inl ⟨by rfl, ?_⟩) hHeld ?_; rotate_left; (focus (intro w hSw; (skip); go_simp; first | done | with_reducible rfl)); try simp only [Act.put, List.setIfInBounds_toArray, List.set_cons_zero, List.set_cons_succ])
      (refine wpAnyC_take [14, 19, 29, 38] (i := 9) (oi := ⟨some 109, _, _, _, _, _⟩) (v := ?_) rfl (by kernel_rfl) (by kernel_rfl) (by kernel_rfl) (by kernel_rfl) (fun _ _ _ h => h) (Or.inl ⟨by rfl, ?_⟩) hHeld ?_; rotate_left; (focus (intro w hSw; (skip); go_simp; first | done | with_reducible rfl)); try simp only [Act.put, List.setIfInBounds_toArray, List.set_cons_zero, List.set_cons_succ])
      (refine wpAnyC_take [11, 16, 17, 18, 19, 29, 38] (i := 10) (oi := ⟨some 110, _, _, _, _, _⟩) (v := ?_) rfl (by kernel_rfl) (by kernel_rfl) (by kernel_rfl) (by kernel_rfl) (fun _ _ _ h => h) (Or.inl ⟨by rfl, ?_⟩) hHeld ?_; rotate_left; (focus (intro w hSw; (skip); go_simp; first | done | with_reducible rfl)); try simp only [Act.put, List.setIfInBounds_toArray, List.set_cons_zero, List.set_cons_succ])
      (refine wpAnyC_take [16, 17, 18, 19, 29, 38] (i := 11) (oi := ⟨some 111, _, _, _, _, _⟩) (v := ?_) rfl (by kernel_rfl) (by kernel_rfl) (by kernel_rfl) (by kernel_rfl) (fun _ _ _ h => h) (Or.inl ⟨by rfl, ?_⟩) hHeld ?_; rotate_left; (focus (intro w hSw; (have q1 := hcv w hSw); go_simp; first | done | with_reducible rfl)); try simp only [Act.put, List.setIfInBounds_toArray, List.set_cons_zero, List.set_cons_succ])
      refine wpAnyC_one (i := 12) (oi := ⟨some 112, _, _, _, _, _⟩) rfl (by kernel_rfl) (by decide) (fun K hK => ?_)
      rw [if_pos (by rfl)]
      go_simp
      refine hK.out _ _ hx1b ?_
      have hHeld := hx1b
      clear hK K
      try simp only [Act.put, List.setIfInBounds_toArray, List.set_cons_zero, List.set_cons_succ]
      refine wpAnyC_one (i := 13) (oi := ⟨some 113, _, _, _, _, _⟩) rfl (by kernel_rfl) (by decide) (fun K hK => ?_)
      rw [if_pos (by rfl)]
      go_simp
      refine hK.out _ _ hx1 ?_
      have hHeld := hx1
      clear hK K
      try simp only [Act.put, List.setIfInBounds_toArray, List.set_cons_zero, List.set_cons_succ]
      refine wpAnyC_one (i := 14) (oi := ⟨some 114, _, _, _, _, _⟩) rfl (by kernel_rfl) (by decide) (fun K hK => ?_)
      rw [if_pos (by rfl)]
      go_simp
      refine (full_step _ _ _ hb1).mono ?_
      rintro e w22 ⟨bz, rfl, _, _, hbz, hx22⟩
      rw [← HA.out] at hbz
      refine hK.out _ _ (hx1.trans hx22) ?_
      have hHeld := hx1.trans hx22
      have hcz0 := hbz.toString (P := Try.prog) 31 9 5 Try.underlying31 Try.underlying5 Try.underlying9
      clear hK K
      try simp only [Act.put, List.setIfInBounds_toArray, List.set_cons_zero, List.set_cons_succ]
      refine wpAnyC_one (i := 15) (oi := ⟨some 115, _, _, _, _, _⟩) rfl (by kernel_rfl) (by decide) (fun K hK => ?_)
      rw [if_pos (by rfl)]
      go_simp
      refine hK.out _ _ hHeld ?_
      clear hK K
      try simp only [Act.put, List.setIfInBounds_toArray, List.set_cons_zero, List.set_cons_succ]
      (refine wpAnyC_take [17, 18, 19, 29, 38] (i := 16) (oi := ⟨some 116, _, _, _, _, _⟩) (v := ?_) rfl (by kernel_rfl) (by kernel_rfl) (by kernel_rfl) (by kernel_rfl) (fun _ _ _ h => h) (Or.inl ⟨by rfl, ?_⟩) hHeld ?_; rotate_left; (focus (intro w hSw; (skip); go_simp; first | done | with_reducible rfl)); try simp only [Act.put, List.setIfInBounds_toArray, List.set_cons_zero, List.set_cons_succ])
      (refine wpAnyC_take [18, 19, 29, 38] (i := 17) (oi := ⟨some 117, _, _, _, _, _⟩) (v := ?_) rfl (by kernel_rfl) (by kernel_rfl) (by kernel_rfl) (by kernel_rfl) (fun _ _ _ h => h) (Or.inl ⟨by rfl, ?_⟩) hHeld ?_; rotate_left; (focus (intro w hSw; (skip); go_simp; first | done | with_reducible rfl)); try simp only [Act.put, List.setIfInBounds_toArray, List.set_cons_zero, List.set_cons_succ])
      (refine wpAnyC_take [19, 29, 38] (i := 18) (oi := ⟨some 118, _, _, _, _, _⟩) (v := ?_) rfl (by kernel_rfl) (by kernel_rfl) (by kernel_rfl) (by kernel_rfl) (fun _ _ _ h => h) (Or.inl ⟨by rfl, ?_⟩) hHeld ?_; rotate_left; (focus (intro w hSw; (skip); go_simp; first | done | with_reducible rfl)); try simp only [Act.put, List.setIfInBounds_toArray, List.set_cons_zero, List.set_cons_succ])
      (refine wpAnyC_take [29, 38] (i := 19) (oi := ⟨some 119, _, _, _, _, _⟩) (v := ?_) rfl (by kernel_rfl) (by kernel_rfl) (by kernel_rfl) (by kernel_rfl) (fun _ _ _ h => h) (Or.inl ⟨by rfl, ?_⟩) hHeld ?_; rotate_left; (focus (intro w hSw; (skip); go_simp; first | done | with_reducible rfl)); try simp only [Act.put, List.setIfInBounds_toArray, List.set_cons_zero, List.set_cons_succ])
      (refine wpAnyC_take [21, 22, 29, 38] (i := 20) (oi := ⟨some 120, _, _, _, _, _⟩) (v := ?_) rfl (by kernel_rfl) (by kernel_rfl) (by kernel_rfl) (by kernel_rfl) (fun _ _ _ h => h) (Or.inl ⟨by rfl, ?_⟩) hHeld ?_; rotate_left; (focus (intro w hSw; (skip); go_simp; first | done | with_reducible rfl)); try simp only [Act.put, List.setIfInBounds_toArray, List.set_cons_zero, List.set_cons_succ])
      (refine wpAnyC_take [22, 29, 38] (i := 21) (oi := ⟨some 121, _, _, _, _, _⟩) (v := ?_) rfl (by kernel_rfl) (by kernel_rfl) (by kernel_rfl) (by kernel_rfl) (fun _ _ _ h => h) (Or.inl ⟨by rfl, ?_⟩) hHeld ?_; rotate_left; (focus (intro w hSw; (skip); go_simp; first | done | with_reducible rfl)); try simp only [Act.put, List.setIfInBounds_toArray, List.set_cons_zero, List.set_cons_succ])
      (refine wpAnyC_take [29, 38] (i := 22) (oi := ⟨some 122, _, _, _, _, _⟩) (v := ?_) rfl (by kernel_rfl) (by kernel_rfl) (by kernel_rfl) (by kernel_rfl) (fun _ _ _ h => h) (Or.inl ⟨by rfl, ?_⟩) hHeld ?_; rotate_left; (focus (intro w hSw; (skip); go_simp; first | done | with_reducible rfl)); try simp only [Act.put, List.setIfInBounds_toArray, List.set_cons_zero, List.set_cons_succ])
      (refine wpAnyC_take [24, 27, 28, 29, 38] (i := 23) (oi := ⟨some 123, _, _, _, _, _⟩) (v := undef) rfl (by kernel_rfl) (by kernel_rfl) (by kernel_rfl) (by kernel_rfl) (fun _ _ _ h => h) (Or.inr ⟨by rfl, rfl⟩) hHeld ?_; try simp only [Act.put, List.setIfInBounds_toArray, List.set_cons_zero, List.set_cons_succ])
      (refine wpAnyC_take [27, 28, 29, 38] (i := 24) (oi := ⟨some 124, _, _, _, _, _⟩) (v := undef) rfl (by kernel_rfl) (by kernel_rfl) (by kernel_rfl) (by kernel_rfl) (fun _ _ _ h => h) (Or.inr ⟨by rfl, rfl⟩) hHeld ?_; try simp only [Act.put, List.setIfInBounds_toArray, List.set_cons_zero, List.set_cons_succ])
      (refine wpAnyC_take [26, 27, 28, 29, 38] (i := 25) (oi := ⟨some 125, _, _, _, _, _⟩) (v := undef) rfl (by kernel_rfl) (by kernel_rfl) (by kernel_rfl) (by kernel_rfl) (fun _ _ _ h => h) (Or.inr ⟨by rfl, rfl⟩) hHeld ?_; try simp only [Act.put, List.setIfInBounds_toArray, List.set_cons_zero, List.set_cons_succ])
      (refine wpAnyC_take [27, 28, 29, 38] (i := 26) (oi := ⟨some 126, _, _, _, _, _⟩) (v := undef) rfl (by kernel_rfl) (by kernel_rfl) (by kernel_rfl) (by kernel_rfl) (fun _ _ _ h => h) (Or.inr ⟨by rfl, rfl⟩) hHeld ?_; try simp only [Act.put, List.setIfInBounds_toArray, List.set_cons_zero, List.set_cons_succ])
      (refine wpAnyC_take [28, 29, 38] (i := 27) (oi := ⟨some 127, _, _, _, _, _⟩) (v := undef) rfl (by kernel_rfl) (by kernel_rfl) (by kernel_rfl) (by kernel_rfl) (fun _ _ _ h => h) (Or.inr ⟨by rfl, rfl⟩) hHeld ?_; try simp only [Act.put, List.setIfInBounds_toArray, List.set_cons_zero, List.set_cons_succ])
      (refine wpAnyC_take [29, 38] (i := 28) (oi := ⟨some 128, _, _, _, _, _⟩) (v := ?_) rfl (by kernel_rfl) (by kernel_rfl) (by kernel_rfl) (by kernel_rfl) (fun _ _ _ h => h) (Or.inl ⟨by rfl, ?_⟩) hHeld ?_; rotate_left; (focus (intro w hSw; (skip); go_simp; first | done | with_reducible rfl)); try simp only [Act.put, List.setIfInBounds_toArray, List.set_cons_zero, List.set_cons_succ])
      (refine wpAnyC_take [38] (i := 29) (oi := ⟨some 129, _, _, _, _, _⟩) (v := ?_) rfl (by kernel_rfl) (by kernel_rfl) (by kernel_rfl) (by kernel_rfl) (fun _ _ _ h => h) (Or.inl ⟨by rfl, ?_⟩) hHeld ?_; rotate_left; (focus (intro w hSw; (skip); go_simp; first | done | with_reducible rfl)); try simp only [Act.put, List.setIfInBounds_toArray, List.set_cons_zero, List.set_cons_succ])
      (refine wpAnyC_take [31, 32, 35, 36, 37, 38] (i := 30) (oi := ⟨some 130, _, _, _, _, _⟩) (v := undef) rfl (by kernel_rfl) (by kernel_rfl) (by kernel_rfl) (by kernel_rfl) (fun _ _ _ h => h) (Or.inr ⟨by rfl, rfl⟩) hHeld ?_; try simp only [Act.put, List.setIfInBounds_toArray, List.set_cons_zero, List.set_cons_succ])
      (refine wpAnyC_take [32, 35, 36, 37, 38] (i := 31) (oi := ⟨some 131, _, _, _, _, _⟩) (v := undef) rfl (by kernel_rfl) (by kernel_rfl) (by kernel_rfl) (by kernel_rfl) (fun _ _ _ h => h) (Or.inr ⟨by rfl, rfl⟩) hHeld ?_; try simp only [Act.put, List.setIfInBounds_toArray, List.set_cons_zero, List.set_cons_succ])
      (refine wpAnyC_take [35, 36, 37, 38] (i := 32) (oi := ⟨some 132, _, _, _, _, _⟩) (v := undef) rfl (by kernel_rfl) (by kernel_rfl) (by kernel_rfl) (by kernel_rfl) (fun _ _ _ h => h) (Or.inr ⟨by rfl, rfl⟩) hHeld ?_; try simp only [Act.put, List.setIfInBounds_toArray, List.set_cons_zero, List.set_cons_succ])
      (refine wpAnyC_take [34, 35, 36, 37, 38] (i := 33) (oi := ⟨some 133, _, _, _, _, _⟩) (v := undef) rfl (by kernel_rfl) (by kernel_rfl) (by kernel_rfl) (by kernel_rfl) (fun _ _ _ h => h) (Or.inr ⟨by rfl, rfl⟩) hHeld ?_; try simp only [Act.put, List.setIfInBounds_toArray, List.set_cons_zero, List.set_cons_succ])
      (refine wpAnyC_take [35, 36, 37, 38] (i := 34) (oi := ⟨some 134, _, _, _, _, _⟩) (v := undef) rfl (by kernel_rfl) (by kernel_rfl) (by kernel_rfl) (by kernel_rfl) (fun _ _ _ h => h) (Or.inr ⟨by rfl, rfl⟩) hHeld ?_; try simp only [Act.put, List.setIfInBounds_toArray, List.set_cons_zero, List.set_cons_succ])
      (refine wpAnyC_take [36, 37, 38] (i := 35) (oi := ⟨some 135, _, _, _, _, _⟩) (v := undef) rfl (by kernel_rfl) (by kernel_rfl) (by kernel_rfl) (by kernel_rfl) (fun _ _ _ h => h) (Or.inr ⟨by rfl, rfl⟩) hHeld ?_; try simp only [Act.put, List.setIfInBounds_toArray, List.set_cons_zero, List.set_cons_succ])
      (refine wpAnyC_take [37, 38] (i := 36) (oi := ⟨some 136, _, _, _, _, _⟩) (v := ?_) rfl (by kernel_rfl) (by kernel_rfl) (by kernel_rfl) (by kernel_rfl) (fun _ _ _ h => h) (Or.inl ⟨by rfl, ?_⟩) hHeld ?_; rotate_left; (focus (intro w hSw; (skip); go_simp; first | done | with_reducible rfl)); try simp only [Act.put, List.setIfInBounds_toArray, List.set_cons_zero, List.set_cons_succ])
      (refine wpAnyC_take [38] (i := 37) (oi := ⟨some 137, _, _, _, _, _⟩) (v := ?_) rfl (by kernel_rfl) (by kernel_rfl) (by kernel_rfl) (by kernel_rfl) (fun _ _ _ h => h) (Or.inl ⟨by rfl, ?_⟩) hHeld ?_; rotate_left; (focus (intro w hSw; (skip); go_simp; first | done | with_reducible rfl)); try simp only [Act.put, List.setIfInBounds_toArray, List.set_cons_zero, List.set_cons_succ])
      refine wpAnyC_c (oi := ⟨some 6, _, _, _, _, _⟩) rfl (by kernel_rfl) (fun K hK => ?_)
      rw [if_pos (by rfl)]
      go_simp
      refine hK.out _ _ ?_
      clear hK K
      try simp only [Act.put, List.setIfInBounds_toArray, List.set_cons_zero, List.set_cons_succ]
      refine wpAny_done (by kernel_rfl) ?_ _
      go_wp2
      go_ret
      exact ⟨rfl, HXX.out.trans hHeld⟩
    · have hX := hxW hi1
      subst hX
      have hi1b : (i == 1) = false := by rw [beq_eq_false_iff_ne]; exact hi1
      clear hbA hxW hi1 hi2
      by_cases hWM : WW = M
      · have hne : (WW == M) = true := by rw [beq_iff_eq]; exact hWM
        clear hWM
        have hcm : ∀ w', Ext w21 w' → (convert 31 9 (.slice (some ⟨bm, 0, none⟩) 512 512)).run Try.prog w' = .ok (.string ⟨M.toArray⟩) w' := fun w' hx => HBM.out.str w' hx
        have hcl : ∀ w', Ext w21 w' → w'.cell? ⟨og, 1, none⟩ = some (.string ⟨WW.toArray⟩) := fun w' hx => hx.cell hcw1
        have hxd := Ext.of_drew w21
        have hcx : ∀ w', Ext w21 w' → (convert 31 9 (.slice xa WW.length xc)).run Try.prog w' = .ok (.string ⟨WW.toArray⟩) w' := fun w' hx => HBX.out.str w' hx
        have hcv : ∀ w', Ext w21 w' → (convert 31 9 (.slice va A.length vc)).run Try.prog w' = .ok (.string ⟨A.toArray⟩) w' := fun w' hx => HBV.out.str w' hx
        have k1 := Lib.run_convert_bytes_const (P := Try.prog) w21.drew 31 5 #[.int .u8 119, .int .u8 97, .int .u8 105, .int .u8 116, .int .u8 115] 5 5 Try.underlying31 Try.underlying5
        have hb1 : Bs (w21.drew.alloc (.cells #[.int .u8 119, .int .u8 97, .int .u8 105, .int .u8 116, .int .u8 115] 5 (5, 6))) (.slice (some ⟨w21.drew.heap.size, 0, none⟩) 5 5) [119, 97, 105, 116, 115] := Bs.litM w21.drew [119, 97, 105, 116, 115] 5 (5, 6) (by simp [maxLen])
        have hx1 : Ext w21 (w21.drew.alloc (.cells #[.int .u8 119, .int .u8 97, .int .u8 105, .int .u8 116, .int .u8 115] 5 (5, 6))) := hxd.alloc _
        have hx1b : Ext w21 (w21.drew.alloc (.cells #[.int .u8 119, .int .u8 97, .int .u8 105, .int .u8 116, .int .u8 115] 5)) := hxd.alloc _
        have hHeld := hxd
        go_wp2_with fail
        refine wp_region_C (fun w' => Ext w21 w') 38 (by kernel_rfl) ?_
        generalize w21.drew = wz at *
        (refine wpAnyC_take [38] (i := 0) (oi := ⟨some 100, _, _, _, _, _⟩) (v := ?_) rfl (by kernel_rfl) (by kernel_rfl) (by kernel_rfl) (by kernel_rfl) (fun _ _ _ h => h) (Or.inl ⟨by rfl, ?_⟩) hHeld ?_; rotate_left; (focus (intro w hSw; (skip); go_simp; first | done | with_reducible rfl)); try simp only [Act.put, List.setIfInBounds_toArray, List.set_cons_zero, List.set_cons_succ])
        (refine wpAnyC_take [38] (i := 1) (oi := ⟨some 101, _, _, _, _, _⟩) (v := ?_) rfl (by kernel_rfl) (by kernel_rfl) (by kernel_rfl) (by kernel_rfl) (fun _ _ _ h => h) (Or.inl ⟨by rfl, ?_⟩) hHeld ?_; rotate_left; (focus (intro w hSw; (skip); go_simp; first | done | with_reducible rfl)); try simp only [Act.put, List.setIfInBounds_toArray, List.set_cons_zero, List.set_cons_succ])
        (refine wpAnyC_take [38] (i := 2) (oi := ⟨some 102, _, _, _, _, _⟩) (v := ?_) rfl (by kernel_rfl) (by kernel_rfl) (by kernel_rfl) (by kernel_rfl) (fun _ _ _ h => h) (Or.inl ⟨by rfl, ?_⟩) hHeld ?_; rotate_left; (focus (intro w hSw; (skip); go_simp; first | done | with_reducible rfl)); try simp only [Act.put, List.setIfInBounds_toArray, List.set_cons_zero, List.set_cons_succ])
        (refine wpAnyC_take [38] (i := 3) (oi := ⟨some 103, _, _, _, _, _⟩) (v := ?_) rfl (by kernel_rfl) (by kernel_rfl) (by kernel_rfl) (by kernel_rfl) (fun _ _ _ h => h) (Or.inl ⟨by rfl, ?_⟩) hHeld ?_; rotate_left; (focus (intro w hSw; (skip); go_simp; first | done | with_reducible rfl)); try simp only [Act.put, List.setIfInBounds_toArray, List.set_cons_zero, List.set_cons_succ])
        (refine wpAnyC_take [38] (i := 4) (oi := ⟨some 104, _, _, _, _, _⟩) (v := ?_) rfl (by kernel_rfl) (by kernel_rfl) (by kernel_rfl) (by kernel_rfl) (fun _ _ _ h => h) (Or.inl ⟨by rfl, ?_⟩) hHeld ?_; rotate_left; (focus (intro w hSw; (skip); go_simp; first | done | with_reducible rfl)); try simp only [Act.put, List.setIfInBounds_toArray, List.set_cons_zero, List.set_cons_succ])
        (refine wpAnyC_take [6, 18, 19, 29, 38] (i := 5) (oi := ⟨some 105, _, _, _, _, _⟩) (v := ?_) rfl (by kernel_rfl) (by kernel_rfl) (by kernel_rfl) (by kernel_rfl) (fun _ _ _ h => h) (Or.inl ⟨by rfl, ?_⟩) hHeld ?_; rotate_left; (focus (intro w hSw; (skip); go_simp; first | done | with_reducible rfl)); try simp only [Act.put, List.setIfInBounds_toArray, List.set_cons_zero, List.set_cons_succ])
        (refine wpAnyC_take [18, 19, 29, 38] (i := 6) (oi := ⟨some 106, _, _, _, _, _⟩) (v := ?_) rfl (by kernel_rfl) (by kernel_rfl) (by kernel_rfl) (by kernel_rfl) (fun _ _ _ h => h) (Or.inl ⟨by rfl, ?_⟩) hHeld ?_; rotate_left; (focus (intro w hSw; (skip); go_simp; first | done | with_reducible rfl)); try simp only [Act.put, List.setIfInBounds_toArray, List.set_cons_zero, List.set_cons_succ])
        (refine wpAnyC_take [8, 9, 14, 19, 29, 38] (i := 7) (oi := ⟨some 107, _, _, _, _, _⟩) (v := ?_) rfl (by kernel_rfl) (by kernel_rfl) (by kernel_rfl) (by kernel_rfl) (fun _ _ _ h => h) (Or.inl ⟨by rfl, ?_⟩) hHeld ?_; rotate_left; (focus (intro w hSw; (skip); go_simp; first | done | with_reducible rfl)); try simp only [Act.put, List.setIfInBounds_toArray, List.set_cons_zero, List.set_cons_succ])
        (refine wpAnyC_take [9, 14, 19, 29, 38] (i := 8) (oi := ⟨some 108, _, _, _, _, _⟩) (v := ?_) rfl (by kernel_rfl) (by kernel_rfl) (by kernel_rfl) (by kernel_rfl) (fun _ _ _ h => h) (Or.inl ⟨by rfl, ?_⟩) hHeld ?_; rotate_left; (focus (intro w hSw; (skip); go_simp; first | done | with_reducible rfl)); try simp only [Act.put, List.setIfInBounds_toArray, List.set_cons_zero, List.set_cons_succ])
        (refine wpAnyC_take [14, 19, 29, 38] (i := 9) (oi := ⟨some 109, _, _, _, _, _⟩) (v := ?_) rfl (by kernel_rfl) (by kernel_rfl) (by kernel_rfl) (by kernel_rfl) (fun _ _ _ h => h) (Or.inl ⟨by rfl, ?_⟩) hHeld ?_; rotate_left; (focus (intro w hSw; (skip); go_simp; first | done | with_reducible rfl)); try simp only [Act.put, List.setIfInBounds_toArray, List.set_cons_zero, List.set_cons_succ])
        (refine wpAnyC_take [11, 16, 17, 18, 19, 29, 38] (i := 10) (oi := ⟨some 110, _, _, _, _, _⟩) (v := ?_) rfl (by kernel_rfl) (by kernel_rfl) (by kernel_rfl) (by kernel_rfl) (fun _ _ _ h => h) (Or.inl ⟨by rfl, ?_⟩) hHeld ?_; rotate_left; (focus (intro w hSw; (skip); go_simp; first | done | with_reducible rfl)); try simp only [Act.put, List.setIfInBounds_toArray, List.set_cons_zero, List.set_cons_succ])
        (refine wpAnyC_take [16, 17, 18, 19, 29, 38] (i := 11) (oi := ⟨some 111, _, _, _, _, _⟩) (v := ?_) rfl (by kernel_rfl) (by kernel_rfl) (by kernel_rfl) (by kernel_rfl) (fun _ _ _ h => h) (Or.inl ⟨by rfl, ?_⟩) hHeld ?_; rotate_left; (focus (intro w hSw; (have q1 := hcv w hSw); go_simp; first | done | with_reducible rfl)); try simp only [Act.put, List.setIfInBounds_toArray, List.set_cons_zero, List.set_cons_succ])
        refine wpAnyC_one (i := 12) (oi := ⟨some 112, _, _, _, _, _⟩) rfl (by kernel_rfl) (by decide) (fun K hK => ?_)
        rw [if_pos (by rfl)]
        go_simp
        refine hK.out _ _ hx1b ?_
        have hHeld := hx1b
        clear hK K
        try simp only [Act.put, List.setIfInBounds_toArray, List.set_cons_zero, List.set_cons_succ]
        refine wpAnyC_one (i := 13) (oi := ⟨some 113, _, _, _, _, _⟩) rfl (by kernel_rfl) (by decide) (fun K hK => ?_)
        rw [if_pos (by rfl)]
        go_simp
        refine hK.out _ _ hx1 ?_
        have hHeld := hx1
        clear hK K
        try simp only [Act.put, List.setIfInBounds_toArray, List.set_cons_zero, List.set_cons_succ]
        refine wpAnyC_one (i := 14) (oi := ⟨some 114, _, _, _, _, _⟩) rfl (by kernel_rfl) (by decide) (fun K hK => ?_)
        rw [if_pos (by rfl)]
        go_simp
        refine (full_step _ _ _ hb1).mono ?_
        rintro e w22 ⟨bz, rfl, _, _, hbz, hx22⟩
        rw [← HA.out] at hbz
        refine hK.out _ _ (hx1.trans hx22) ?_
        have hHeld := hx1.trans hx22
        have hcz0 := hbz.toString (P := Try.prog) 31 9 5 Try.underlying31 Try.underlying5 Try.underlying9
        clear hK K
        try simp only [Act.put, List.setIfInBounds_toArray, List.set_cons_zero, List.set_cons_succ]
        refine wpAnyC_one (i := 15) (oi := ⟨some 115, _, _, _, _, _⟩) rfl (by kernel_rfl) (by decide) (fun K hK => ?_)
        rw [if_pos (by rfl)]
        go_simp
        refine hK.out _ _ hHeld ?_
        clear hK K
        try simp only [Act.put, List.setIfInBounds_toArray, List.set_cons_zero, List.set_cons_succ]
        (refine wpAnyC_take [17, 18, 19, 29, 38] (i := 16) (oi := ⟨some 116, _, _, _, _, _⟩) (v := ?_) rfl (by kernel_rfl) (by kernel_rfl) (by kernel_rfl) (by kernel_rfl) (fun _ _ _ h => h) (Or.inl ⟨by rfl, ?_⟩) hHeld ?_; rotate_left; (focus (intro w hSw; (skip); go_simp; first | done | with_reducible rfl)); try simp only [Act.put, List.setIfInBounds_toArray, List.set_cons_zero, List.set_cons_succ])
        (refine wpAnyC_take [18, 19, 29, 38] (i := 17) (oi := ⟨some 117, _, _, _, _, _⟩) (v := ?_) rfl (by kernel_rfl) (by kernel_rfl) (by kernel_rfl) (by kernel_rfl) (fun _ _ _ h => h) (Or.inl ⟨by rfl, ?_⟩) hHeld ?_; rotate_left; (focus (intro w hSw; (skip); go_simp; first | done | with_reducible rfl)); try simp only [Act.put, List.setIfInBounds_toArray, List.set_cons_zero, List.set_cons_succ])
        (refine wpAnyC_take [19, 29, 38] (i := 18) (oi := ⟨some 118, _, _, _, _, _⟩) (v := ?_) rfl (by kernel_rfl) (by kernel_rfl) (by kernel_rfl) (by kernel_rfl) (fun _ _ _ h => h) (Or.inl ⟨by rfl, ?_⟩) hHeld ?_; rotate_left; (focus (intro w hSw; (skip); go_simp; first | done | with_reducible rfl)); try simp only [Act.put, List.setIfInBounds_toArray, List.set_cons_zero, List.set_cons_succ])
        (refine wpAnyC_take [29, 38] (i := 19) (oi := ⟨some 119, _, _, _, _, _⟩) (v := ?_) rfl (by kernel_rfl) (by kernel_rfl) (by kernel_rfl) (by kernel_rfl) (fun _ _ _ h => h) (Or.inl ⟨by rfl, ?_⟩) hHeld ?_; rotate_left; (focus (intro w hSw; (skip); go_simp; first | done | with_reducible rfl)); try simp only [Act.put, List.setIfInBounds_toArray, List.set_cons_zero, List.set_cons_succ])
        (refine wpAnyC_take [21, 22, 29, 38] (i := 20) (oi := ⟨some 120, _, _, _, _, _⟩) (v := ?_) rfl (by kernel_rfl) (by kernel_rfl) (by kernel_rfl) (by kernel_rfl) (fun _ _ _ h => h) (Or.inl ⟨by rfl, ?_⟩) hHeld ?_; rotate_left; (focus (intro w hSw; (skip); go_simp; first | done | with_reducible rfl)); try simp only [Act.put, List.setIfInBounds_toArray, List.set_cons_zero, List.set_cons_succ])
        (refine wpAnyC_take [22, 29, 38] (i := 21) (oi := ⟨some 121, _, _, _, _, _⟩) (v := ?_) rfl (by kernel_rfl) (by kernel_rfl) (by kernel_rfl) (by kernel_rfl) (fun _ _ _ h => h) (Or.inl ⟨by rfl, ?_⟩) hHeld ?_; rotate_left; (focus (intro w hSw; (skip); go_simp; first | done | with_reducible rfl)); try simp only [Act.put, List.setIfInBounds_toArray, List.set_cons_zero, List.set_cons_succ])
        (refine wpAnyC_take [29, 38] (i := 22) (oi := ⟨some 122, _, _, _, _, _⟩) (v := ?_) rfl (by kernel_rfl) (by kernel_rfl) (by kernel_rfl) (by kernel_rfl) (fun _ _ _ h => h) (Or.inl ⟨by rfl, ?_⟩) hHeld ?_; rotate_left; (focus (intro w hSw; (skip); go_simp; first | done | with_reducible rfl)); try simp only [Act.put, List.setIfInBounds_toArray, List.set_cons_zero, List.set_cons_succ])
        (refine wpAnyC_take [24, 27, 28, 29, 38] (i := 23) (oi := ⟨some 123, _, _, _, _, _⟩) (v := ?_) rfl (by kernel_rfl) (by kernel_rfl) (by kernel_rfl) (by kernel_rfl) (fun _ _ _ h => h) (Or.inl ⟨by rfl, ?_⟩) hHeld ?_; rotate_left; (focus (intro w hSw; (skip); go_simp; first | done | with_reducible rfl)); try simp only [Act.put, List.setIfInBounds_toArray, List.set_cons_zero, List.set_cons_succ])
        (refine wpAnyC_take [27, 28, 29, 38] (i := 24) (oi := ⟨some 124, _, _, _, _, _⟩) (v := ?_) rfl (by kernel_rfl) (by kernel_rfl) (by kernel_rfl) (by kernel_rfl) (fun _ _ _ h => h) (Or.inl ⟨by rfl, ?_⟩) hHeld ?_; rotate_left; (focus (intro w hSw; (have q1 := hcx w hSw); go_simp; first | done | with_reducible rfl)); try simp only [Act.put, List.setIfInBounds_toArray, List.set_cons_zero, List.set_cons_succ])
        (refine wpAnyC_take [26, 27, 28, 29, 38] (i := 25) (oi := ⟨some 125, _, _, _, _, _⟩) (v := ?_) rfl (by kernel_rfl) (by kernel_rfl) (by kernel_rfl) (by kernel_rfl) (fun _ _ _ h => h) (Or.inl ⟨by rfl, ?_⟩) hHeld ?_; rotate_left; (focus (intro w hSw; (skip); go_simp; first | done | with_reducible rfl)); try simp only [Act.put, List.setIfInBounds_toArray, List.set_cons_zero, List.set_cons_succ])
        (refine wpAnyC_take [27, 28, 29, 38] (i := 26) (oi := ⟨some 126, _, _, _, _, _⟩) (v := ?_) rfl (by kernel_rfl) (by kernel_rfl) (by kernel_rfl) (by kernel_rfl) (fun _ _ _ h => h) (Or.inl ⟨by rfl, ?_⟩) hHeld ?_; rotate_left; (focus (intro w hSw; (have q1 := hcm w hSw); go_simp; first | done | with_reducible rfl)); try simp only [Act.put, List.setIfInBounds_toArray, List.set_cons_zero, List.set_cons_succ])
        (refine wpAnyC_take [28, 29, 38] (i := 27) (oi := ⟨some 127, _, _, _, _, _⟩) (v := ?_) rfl (by kernel_rfl) (by kernel_rfl) (by kernel_rfl) (by kernel_rfl) (fun _ _ _ h => h) (Or.inl ⟨by rfl, ?_⟩) hHeld ?_; rotate_left; (focus (intro w hSw; (skip); go_simp; first | done | with_reducible rfl)); try simp only [Act.put, List.setIfInBounds_toArray, List.set_cons_zero, List.set_cons_succ])
        (refine wpAnyC_take [29, 38] (i := 28) (oi := ⟨some 128, _, _, _, _, _⟩) (v := ?_) rfl (by kernel_rfl) (by kernel_rfl) (by kernel_rfl) (by kernel_rfl) (fun _ _ _ h => h) (Or.inl ⟨by rfl, ?_⟩) hHeld ?_; rotate_left; (focus (intro w hSw; (skip); go_simp; first | done | with_reducible rfl)); try simp only [Act.put, List.setIfInBounds_toArray, List.set_cons_zero, List.set_cons_succ])
        (refine wpAnyC_take [38] (i := 29) (oi := ⟨some 129, _, _, _, _, _⟩) (v := ?_) rfl (by kernel_rfl) (by kernel_rfl) (by kernel_rfl) (by kernel_rfl) (fun _ _ _ h => h) (Or.inl ⟨by rfl, ?_⟩) hHeld ?_; rotate_left; (focus (intro w hSw; (skip); go_simp; first | done | with_reducible rfl)); try simp only [Act.put, List.setIfInBounds_toArray, List.set_cons_zero, List.set_cons_succ])
        (refine wpAnyC_take [31, 32, 35, 36, 37, 38] (i := 30) (oi := ⟨some 130, _, _, _, _, _⟩) (v := ?_) rfl (by kernel_rfl) (by kernel_rfl) (by kernel_rfl) (by kernel_rfl) (fun _ _ _ h => h) (Or.inl ⟨by rfl, ?_⟩) hHeld ?_; rotate_left; (focus (intro w hSw; (skip); go_simp; first | done | with_reducible rfl)); try simp only [Act.put, List.setIfInBounds_toArray, List.set_cons_zero, List.set_cons_succ])
        (refine wpAnyC_take [32, 35, 36, 37, 38] (i := 31) (oi := ⟨some 131, _, _, _, _, _⟩) (v := ?_) rfl (by kernel_rfl) (by kernel_rfl) (by kernel_rfl) (by kernel_rfl) (fun _ _ _ h => h) (Or.inl ⟨by rfl, ?_⟩) hHeld ?_; rotate_left; (focus (intro w hSw; (skip); go_simp; first | done | with_reducible rfl)); try simp only [Act.put, List.setIfInBounds_toArray, List.set_cons_zero, List.set_cons_succ])
        (refine wpAnyC_take [35, 36, 37, 38] (i := 32) (oi := ⟨some 132, _, _, _, _, _⟩) (v := ?_) rfl (by kernel_rfl) (by kernel_rfl) (by kernel_rfl) (by kernel_rfl) (fun _ _ _ h => h) (Or.inl ⟨by rfl, ?_⟩) hHeld ?_; rotate_left; (focus (intro w hSw; (have q1 := hcl w hSw); go_simp; first | done | with_reducible rfl)); try simp only [Act.put, List.setIfInBounds_toArray, List.set_cons_zero, List.set_cons_succ])
        (refine wpAnyC_take [34, 35, 36, 37, 38] (i := 33) (oi := ⟨some 133, _, _, _, _, _⟩) (v := ?_) rfl (by kernel_rfl) (by kernel_rfl) (by kernel_rfl) (by kernel_rfl) (fun _ _ _ h => h) (Or.inl ⟨by rfl, ?_⟩) hHeld ?_; rotate_left; (focus (intro w hSw; (skip); go_simp; first | done | with_reducible rfl)); try simp only [Act.put, List.setIfInBounds_toArray, List.set_cons_zero, List.set_cons_succ])
        (refine wpAnyC_take [35, 36, 37, 38] (i := 34) (oi := ⟨some 134, _, _, _, _, _⟩) (v := ?_) rfl (by kernel_rfl) (by kernel_rfl) (by kernel_rfl) (by kernel_rfl) (fun _ _ _ h => h) (Or.inl ⟨by rfl, ?_⟩) hHeld ?_; rotate_left; (focus (intro w hSw; (have q1 := hcm w hSw); go_simp; first | done | with_reducible rfl)); try simp only [Act.put, List.setIfInBounds_toArray, List.set_cons_zero, List.set_cons_succ])
        (refine wpAnyC_take [36, 37, 38] (i := 35) (oi := ⟨some 135, _, _, _, _, _⟩) (v := ?_) rfl (by kernel_rfl) (by kernel_rfl) (by kernel_rfl) (by kernel_rfl) (fun _ _ _ h => h) (Or.inl ⟨by rfl, ?_⟩) hHeld ?_; rotate_left; (focus (intro w hSw; (skip); go_simp; first | done | with_reducible rfl)); try simp only [Act.put, List.setIfInBounds_toArray, List.set_cons_zero, List.set_cons_succ])
        (refine wpAnyC_take [37, 38] (i := 36) (oi := ⟨some 136, _, _, _, _, _⟩) (v := ?_) rfl (by kernel_rfl) (by kernel_rfl) (by kernel_rfl) (by kernel_rfl) (fun _ _ _ h => h) (Or.inl ⟨by rfl, ?_⟩) hHeld ?_; rotate_left; (focus (intro w hSw; (skip); go_simp; first | done | with_reducible rfl)); try simp only [Act.put, List.setIfInBounds_toArray, List.set_cons_zero, List.set_cons_succ])
        (refine wpAnyC_take [38] (i := 37) (oi := ⟨some 137, _, _, _, _, _⟩) (v := ?_) rfl (by kernel_rfl) (by kernel_rfl) (by kernel_rfl) (by kernel_rfl) (fun _ _ _ h => h) (Or.inl ⟨by rfl, ?_⟩) hHeld ?_; rotate_left; (focus (intro w hSw; (skip); go_simp; first | done | with_reducible rfl)); try simp only [Act.put, List.setIfInBounds_toArray, List.set_cons_zero, List.set_cons_succ])
        refine wpAnyC_c (oi := ⟨some 6, _, _, _, _, _⟩) rfl (by kernel_rfl) (fun K hK => ?_)
        rw [if_pos (by rfl)]
        go_simp
        refine hK.out _ _ ?_
        clear hK K
        try simp only [Act.put, List.setIfInBounds_toArray, List.set_cons_zero, List.set_cons_succ]
        refine wpAny_done (by kernel_rfl) ?_ _
        go_wp2
        go_ret
        exact ⟨rfl, HXX.out.trans hHeld⟩
      · have hne : (WW == M) = false := by rw [beq_eq_false_iff_ne]; exact hWM
        clear hWM
        have hcm : ∀ w', Ext w21 w' → (convert 31 9 (.slice (some ⟨bm, 0, none⟩) 512 512)).run Try.prog w' = .ok (.string ⟨M.toArray⟩) w' := fun w' hx => HBM.out.str w' hx
        have hcl : ∀ w', Ext w21 w' → w'.cell? ⟨og, 1, none⟩ = some (.string ⟨WW.toArray⟩) := fun w' hx => hx.cell hcw1
        have hxd := Ext.of_drew w21
        have hcx : ∀ w', Ext w21 w' → (convert 31 9 (.slice xa WW.length xc)).run Try.prog w' = .ok (.string ⟨WW.toArray⟩) w' := fun w' hx => HBX.out.str w' hx
        have hcv : ∀ w', Ext w21 w' → (convert 31 9 (.slice va A.length vc)).run Try.prog w' = .ok (.string ⟨A.toArray⟩) w' := fun w' hx => HBV.out.str w' hx
        have k1 := Lib.run_convert_bytes_const (P := Try.prog) w21.drew 31 5 #[.int .u8 119, .int .u8 97, .int .u8 105, .int .u8 116, .int .u8 115] 5 5 Try.underlying31 Try.underlying5
        have hb1 : Bs (w21.drew.alloc (.cells #[.int .u8 119, .int .u8 97, .int .u8 105, .int .u8 116, .int .u8 115] 5 (5, 6))) (.slice (some ⟨w21.drew.heap.size, 0, none⟩) 5 5) [119, 97, 105, 116, 115] := Bs.litM w21.drew [119, 97, 105, 116, 115] 5 (5, 6) (by simp [maxLen])
        have hx1 : Ext w21 (w21.drew.alloc (.cells #[.int .u8 119, .int .u8 97, .int .u8 105, .int .u8 116, .int .u8 115] 5 (5, 6))) := hxd.alloc _
        have hx1b : Ext w21 (w21.drew.alloc (.cells #[.int .u8 119, .int .u8 97, .int .u8 105, .int .u8 116, .int .u8 115] 5)) := hxd.alloc _
        have hHeld := hxd
        go_wp2_with fail
        refine wp_region_C (fun w' => Ext w21 w') 38 (by kernel_rfl) ?_
        generalize w21.drew = wz at *
        (refine wpAnyC_take [38] (i := 0) (oi := ⟨some 100, _, _, _, _, _⟩) (v := ?_) rfl (by kernel_rfl) (by kernel_rfl) (by kernel_rfl) (by kernel_rfl) (fun _ _ _ h => h) (Or.inl ⟨by rfl, ?_⟩) hHeld ?_; rotate_left; (focus (intro w hSw; (skip); go_simp; first | done | with_reducible rfl)); try simp only [Act.put, List.setIfInBounds_toArray, List.set_cons_zero, List.set_cons_succ])
        (refine wpAnyC_take [38] (i := 1) (oi := ⟨some 101, _, _, _, _, _⟩) (v := ?_) rfl (by kernel_rfl) (by kernel_rfl) (by kernel_rfl) (by kernel_rfl) (fun _ _ _ h => h) (Or.inl ⟨by rfl, ?_⟩) hHeld ?_; rotate_left; (focus (intro w hSw; (skip); go_simp; first | done | with_reducible rfl)); try simp only [Act.put, List.setIfInBounds_toArray, List.set_cons_zero, List.set_cons_succ])
        (refine wpAnyC_take [38] (i := 2) (oi := ⟨some 102, _, _, _, _, _⟩) (v := ?_) rfl (by kernel_rfl) (by kernel_rfl) (by kernel_rfl) (by kernel_rfl) (fun _ _ _ h => h) (Or.inl ⟨by rfl, ?_⟩) hHeld ?_; rotate_left; (focus (intro w hSw; (skip); go_simp; first | done | with_reducible rfl)); try simp only [Act.put, List.setIfInBounds_toArray, List.set_cons_zero, List.set_cons_succ])
        (refine wpAnyC_take [38] (i := 3) (oi := ⟨some 103, _, _, _, _, _⟩) (v := ?_) rfl (by kernel_rfl) (by kernel_rfl) (by kernel_rfl) (by kernel_rfl) (fun _ _ _ h => h) (Or.inl ⟨by rfl, ?_⟩) hHeld ?_; rotate_left; (focus (intro w hSw; (skip); go_simp; first | done | with_reducible rfl)); try simp only [Act.put, List.setIfInBounds_toArray, List.set_cons_zero, List.set_cons_succ])
        (refine wpAnyC_take [38] (i := 4) (oi := ⟨some 104, _, _, _, _, _⟩) (v := ?_) rfl (by kernel_rfl) (by kernel_rfl) (by kernel_rfl) (by kernel_rfl) (fun _ _ _ h => h) (Or.inl ⟨by rfl, ?_⟩) hHeld ?_; rotate_left; (focus (intro w hSw; (skip); go_simp; first | done | with_reducible rfl)); try simp only [Act.put, List.setIfInBounds_toArray, List.set_cons_zero, List.set_cons_succ])
        (refine wpAnyC_take [6, 18, 19, 29, 38] (i := 5) (oi := ⟨some 105, _, _, _, _, _⟩) (v := ?_) rfl (by kernel_rfl) (by kernel_rfl) (by kernel_rfl) (by kernel_rfl) (fun _ _ _ h => h) (Or.inl ⟨by rfl, ?_⟩) hHeld ?_; rotate_left; (focus (intro w hSw; (skip); go_simp; first | done | with_reducible rfl)); try simp only [Act.put, List.setIfInBounds_toArray, List.set_cons_zero, List.set_cons_succ])
        (refine wpAnyC_take [18, 19, 29, 38] (i := 6) (oi := ⟨some 106, _, _, _, _, _⟩) (v := ?_) rfl (by kernel_rfl) (by kernel_rfl) (by kernel_rfl) (by kernel_rfl) (fun _ _ _ h => h) (Or.inl ⟨by rfl, ?_⟩) hHeld ?_; rotate_left; (focus (intro w hSw; (skip); go_simp; first | done | with_reducible rfl)); try simp only [Act.put, List.setIfInBounds_toArray, List.set_cons_zero, List.set_cons_succ])
        (refine wpAnyC_take [8, 9, 14, 19, 29, 38] (i := 7) (oi := ⟨some 107, _, _, _, _, _⟩) (v := ?_) rfl (by kernel_rfl) (by kernel_rfl) (by kernel_rfl) (by kernel_rfl) (fun _ _ _ h => h) (Or.inl ⟨by rfl, ?_⟩) hHeld ?_; rotate_left; (focus (intro w hSw; (skip); go_simp; first | done | with_reducible rfl)); try simp only [Act.put, List.setIfInBounds_toArray, List.set_cons_zero, List.set_cons_succ])
        (refine wpAnyC_take [9, 14, 19, 29, 38] (i := 8) (oi := ⟨some 108, _, _, _, _, _⟩) (v := ?_) rfl (by kernel_rfl) (by kernel_rfl) (by kernel_rfl) (by kernel_rfl) (fun _ _ _ h => h) (Or.inl ⟨by rfl, ?_⟩) hHeld ?_; rotate_left; (focus (intro w hSw; (skip); go_simp; first | done | with_reducible rfl)); try simp only [Act.put, List.setIfInBounds_toArray, List.set_cons_zero, List.set_cons_succ])
        (refine wpAnyC_take [14, 19, 29, 38] (i := 9) (oi := ⟨some 109, _, _, _, _, _⟩) (v := ?_) rfl (by kernel_rfl) (by kernel_rfl) (by kernel_rfl) (by kernel_rfl) (fun _ _ _ h => h) (Or.inl ⟨by rfl, ?_⟩) hHeld ?_; rotate_left; (focus (intro w hSw; (skip); go_simp; first | done | with_reducible rfl)); try simp only [Act.put, List.setIfInBounds_toArray, List.set_cons_zero, List.set_cons_succ])
        (refine wpAnyC_take [11, 16, 17, 18, 19, 29, 38] (i := 10) (oi := ⟨some 110, _, _, _, _, _⟩) (v := ?_) rfl (by kernel_rfl) (by kernel_rfl) (by kernel_rfl) (by kernel_rfl) (fun _ _ _ h => h) (Or.inl ⟨by rfl, ?_⟩) hHeld ?_; rotate_left; (focus (intro w hSw; (skip); go_simp; first | done | with_reducible rfl)); try simp only [Act.put, List.setIfInBounds_toArray, List.set_cons_zero, List.set_cons_succ])
        (refine wpAnyC_take [16, 17, 18, 19, 29, 38] (i := 11) (oi := ⟨some 111, _, _, _, _, _⟩) (v := ?_) rfl (by kernel_rfl) (by kernel_rfl) (by kernel_rfl) (by kernel_rfl) (fun _ _ _ h => h) (Or.inl ⟨by rfl, ?_⟩) hHeld ?_; rotate_left; (focus (intro w hSw; (have q1 := hcv w hSw); go_simp; first | done | with_reducible rfl)); try simp only [Act.put, List.setIfInBounds_toArray, List.set_cons_zero, List.set_cons_succ])
        refine wpAnyC_one (i := 12) (oi := ⟨some 112, _, _, _, _, _⟩) rfl (by kernel_rfl) (by decide) (fun K hK => ?_)
        rw [if_pos (by rfl)]
        go_simp
        refine hK.out _ _ hx1b ?_
        have hHeld := hx1b
        clear hK K
        try simp only [Act.put, List.setIfInBounds_toArray, List.set_cons_zero, List.set_cons_succ]
        refine wpAnyC_one (i := 13) (oi := ⟨some 113, _, _, _, _, _⟩) rfl (by kernel_rfl) (by decide) (fun K hK => ?_)
        rw [if_pos (by rfl)]
        go_simp
        refine hK.out _ _ hx1 ?_
        have hHeld := hx1
        clear hK K
        try simp only [Act.put, List.setIfInBounds_toArray, List.set_cons_zero, List.set_cons_succ]
        refine wpAnyC_one (i := 14) (oi := ⟨some 114, _, _, _, _, _⟩) rfl (by kernel_rfl) (by decide) (fun K hK => ?_)
        rw [if_pos (by rfl)]
        go_simp
        refine (full_step _ _ _ hb1).mono ?_
        rintro e w22 ⟨bz, rfl, _, _, hbz, hx22⟩
        rw [← HA.out] at hbz
        refine hK.out _ _ (hx1.trans hx22) ?_
        have hHeld := hx1.trans hx22
        have hcz0 := hbz.toString (P := Try.prog) 31 9 5 Try.underlying31 Try.underlying5 Try.underlying9
        clear hK K
        try simp only [Act.put, List.setIfInBounds_toArray, List.set_cons_zero, List.set_cons_succ]
        refine wpAnyC_one (i := 15) (oi := ⟨some 115, _, _, _, _, _⟩) rfl (by kernel_rfl) (by decide) (fun K hK => ?_)
        rw [if_pos (by rfl)]
        go_simp
        refine hK.out _ _ hHeld ?_
        clear hK K
        try simp only [Act.put, List.setIfInBounds_toArray, List.set_cons_zero, List.set_cons_succ]
        (refine wpAnyC_take [17, 18, 19, 29, 38] (i := 16) (oi := ⟨some 116, _, _, _, _, _⟩) (v := ?_) rfl (by kernel_rfl) (by kernel_rfl) (by kernel_rfl) (by kernel_rfl) (fun _ _ _ h => h) (Or.inl ⟨by rfl, ?_⟩) hHeld ?_; rotate_left; (focus (intro w hSw; (skip); go_simp; first | done | with_reducible rfl)); try simp only [Act.put, List.setIfInBounds_toArray, List.set_cons_zero, List.set_cons_succ])
        (refine wpAnyC_take [18, 19, 29, 38] (i := 17) (oi := ⟨some 117, _, _, _, _, _⟩) (v := ?_) rfl (by kernel_rfl) (by kernel_rfl) (by kernel_rfl) (by kernel_rfl) (fun _ _ _ h => h) (Or.inl ⟨by rfl, ?_⟩) hHeld ?_; rotate_left; (focus (intro w hSw; (skip); go_simp; first | done | with_reducible rfl)); try simp only [Act.put, List.setIfInBounds_toArray, List.set_cons_zero, List.set_cons_succ])
        (refine wpAnyC_take [19, 29, 38] (i := 18) (oi := ⟨some 118, _, _, _, _, _⟩) (v := ?_) rfl (by kernel_rfl) (by kernel_rfl) (by kernel_rfl) (by kernel_rfl) (fun _ _ _ h => h) (Or.inl ⟨by rfl, ?_⟩) hHeld ?_; rotate_left; (focus (intro w hSw; (skip); go_simp; first | done | with_reducible rfl)); try simp only [Act.put, List.setIfInBounds_toArray, List.set_cons_zero, List.set_cons_succ])
        (refine wpAnyC_take [29, 38] (i := 19) (oi := ⟨some 119, _, _, _, _, _⟩) (v := ?_) rfl (by kernel_rfl) (by kernel_rfl) (by kernel_rfl) (by kernel_rfl) (fun _ _ _ h => h) (Or.inl ⟨by rfl, ?_⟩) hHeld ?_; rotate_left; (focus (intro w hSw; (skip); go_simp; first | done | with_reducible rfl)); try simp only [Act.put, List.setIfInBounds_toArray, List.set_cons_zero, List.set_cons_succ])
        (refine wpAnyC_take [21, 22, 29, 38] (i := 20) (oi := ⟨some 120, _, _, _, _, _⟩) (v := ?_) rfl (by kernel_rfl) (by kernel_rfl) (by kernel_rfl) (by kernel_rfl) (fun _ _ _ h => h) (Or.inl ⟨by rfl, ?_⟩) hHeld ?_; rotate_left; (focus (intro w hSw; (skip); go_simp; first | done | with_reducible rfl)); try simp only [Act.put, List.setIfInBounds_toArray, List.set_cons_zero, List.set_cons_succ])
        (refine wpAnyC_take [22, 29, 38] (i := 21) (oi := ⟨some 121, _, _, _, _, _⟩) (v := ?_) rfl (by kernel_rfl) (by kernel_rfl) (by kernel_rfl) (by kernel_rfl) (fun _ _ _ h => h) (Or.inl ⟨by rfl, ?_⟩) hHeld ?_; rotate_left; (focus (intro w hSw; (skip); go_simp; first | done | with_reducible rfl)); try simp only [Act.put, List.setIfInBounds_toArray, List.set_cons_zero, List.set_cons_succ])
        (refine wpAnyC_take [29, 38] (i := 22) (oi := ⟨some 122, _, _, _, _, _⟩) (v := ?_) rfl (by kernel_rfl) (by kernel_rfl) (by kernel_rfl) (by kernel_rfl) (fun _ _ _ h => h) (Or.inl ⟨by rfl, ?_⟩) hHeld ?_; rotate_left; (focus (intro w hSw; (skip); go_simp; first | done | with_reducible rfl)); try simp only [Act.put, List.setIfInBounds_toArray, List.set_cons_zero, List.set_cons_succ])
        (refine wpAnyC_take [24, 27, 28, 29, 38] (i := 23) (oi := ⟨some 123, _, _, _, _, _⟩) (v := ?_) rfl (by kernel_rfl) (by kernel_rfl) (by kernel_rfl) (by kernel_rfl) (fun _ _ _ h => h) (Or.inl ⟨by rfl, ?_⟩) hHeld ?_; rotate_left; (focus (intro w hSw; (skip); go_simp; first | done | with_reducible rfl)); try simp only [Act.put, List.setIfInBounds_toArray, List.set_cons_zero, List.set_cons_succ])
        (refine wpAnyC_take [27, 28, 29, 38] (i := 24) (oi := ⟨some 124, _, _, _, _, _⟩) (v := ?_) rfl (by kernel_rfl) (by kernel_rfl) (by kernel_rfl) (by kernel_rfl) (fun _ _ _ h => h) (Or.inl ⟨by rfl, ?_⟩) hHeld ?_; rotate_left; (focus (intro w hSw; (have q1 := hcx w hSw); go_simp; first | done | with_reducible rfl)); try simp only [Act.put, List.setIfInBounds_toArray, List.set_cons_zero, List.set_cons_succ])
        (refine wpAnyC_take [26, 27, 28, 29, 38] (i := 25) (oi := ⟨some 125, _, _, _, _, _⟩) (v := ?_) rfl (by kernel_rfl) (by kernel_rfl) (by kernel_rfl) (by kernel_rfl) (fun _ _ _ h => h) (Or.inl ⟨by rfl, ?_⟩) hHeld ?_; rotate_left; (focus (intro w hSw; (skip); go_simp; first | done | with_reducible rfl)); try simp only [Act.put, List.setIfInBounds_toArray, List.set_cons_zero, List.set_cons_succ])
        (refine wpAnyC_take [27, 28, 29, 38] (i := 26) (oi := ⟨some 126, _, _, _, _, _⟩) (v := ?_) rfl (by kernel_rfl) (by kernel_rfl) (by kernel_rfl) (by kernel_rfl) (fun _ _ _ h => h) (Or.inl ⟨by rfl, ?_⟩) hHeld ?_; rotate_left; (focus (intro w hSw; (have q1 := hcm w hSw); go_simp; first | done | with_reducible rfl)); try simp only [Act.put, List.setIfInBounds_toArray, List.set_cons_zero, List.set_cons_succ])
        (refine wpAnyC_take [28, 29, 38] (i := 27) (oi := ⟨some 127, _, _, _, _, _⟩) (v := ?_) rfl (by kernel_rfl) (by kernel_rfl) (by kernel_rfl) (by kernel_rfl) (fun _ _ _ h => h) (Or.inl ⟨by rfl, ?_⟩) hHeld ?_; rotate_left; (focus (intro w hSw; (skip); go_simp; first | done | with_reducible rfl)); try simp only [Act.put, List.setIfInBounds_toArray, List.set_cons_zero, List.set_cons_succ])
        (refine wpAnyC_take [29, 38] (i := 28) (oi := ⟨some 128, _, _, _, _, _⟩) (v := ?_) rfl (by kernel_rfl) (by kernel_rfl) (by kernel_rfl) (by kernel_rfl) (fun _ _ _ h => h) (Or.inl ⟨by rfl, ?_⟩) hHeld ?_; rotate_left; (focus (intro w hSw; (skip); go_simp; first | done | with_reducible rfl)); try simp only [Act.put, List.setIfInBounds_toArray, List.set_cons_zero, List.set_cons_succ])
        (refine wpAnyC_take [38] (i := 29) (oi := ⟨some 129, _, _, _, _, _⟩) (v := ?_) rfl (by kernel_rfl) (by kernel_rfl) (by kernel_rfl) (by kernel_rfl) (fun _ _ _ h => h) (Or.inl ⟨by rfl, ?_⟩) hHeld ?_; rotate_left; (focus (intro w hSw; (skip); go_simp; first | done | with_reducible rfl)); try simp only [Act.put, List.setIfInBounds_toArray, List.set_cons_zero, List.set_cons_succ])
        (refine wpAnyC_take [31, 32, 35, 36, 37, 38] (i := 30) (oi := ⟨some 130, _, _, _, _, _⟩) (v := undef) rfl (by kernel_rfl) (by kernel_rfl) (by kernel_rfl) (by kernel_rfl) (fun _ _ _ h => h) (Or.inr ⟨by rfl, rfl⟩) hHeld ?_; try simp only [Act.put, List.setIfInBounds_toArray, List.set_cons_zero, List.set_cons_succ])
        (refine wpAnyC_take [32, 35, 36, 37, 38] (i := 31) (oi := ⟨some 131, _, _, _, _, _⟩) (v := undef) rfl (by kernel_rfl) (by kernel_rfl) (by kernel_rfl) (by kernel_rfl) (fun _ _ _ h => h) (Or.inr ⟨by rfl, rfl⟩) hHeld ?_; try simp only [Act.put, List.setIfInBounds_toArray, List.set_cons_zero, List.set_cons_succ])
        (refine wpAnyC_take [35, 36, 37, 38] (i := 32) (oi := ⟨some 132, _, _, _, _, _⟩) (v := undef) rfl (by kernel_rfl) (by kernel_rfl) (by kernel_rfl) (by kernel_rfl) (fun _ _ _ h => h) (Or.inr ⟨by rfl, rfl⟩) hHeld ?_; try simp only [Act.put, List.setIfInBounds_toArray, List.set_cons_zero, List.set_cons_succ])
        (refine wpAnyC_take [34, 35, 36, 37, 38] (i := 33) (oi := ⟨some 133, _, _, _, _, _⟩) (v := undef) rfl (by kernel_rfl) (by kernel_rfl) (by kernel_rfl) (by kernel_rfl) (fun _ _ _ h => h) (Or.inr ⟨by rfl, rfl⟩) hHeld ?_; try simp only [Act.put, List.setIfInBounds_toArray, List.set_cons_zero, List.set_cons_succ])
        (refine wpAnyC_take [35, 36, 37, 38] (i := 34) (oi := ⟨some 134, _, _, _, _, _⟩) (v := undef) rfl (by kernel_rfl) (by kernel_rfl) (by kernel_rfl) (by kernel_rfl) (fun _ _ _ h => h) (Or.inr ⟨by rfl, rfl⟩) hHeld ?_; try simp only [Act.put, List.setIfInBounds_toArray, List.set_cons_zero, List.set_cons_succ])
        (refine wpAnyC_take [36, 37, 38] (i := 35) (oi := ⟨some 135, _, _, _, _, _⟩) (v := undef) rfl (by kernel_rfl) (by kernel_rfl) (by kernel_rfl) (by kernel_rfl) (fun _ _ _ h => h) (Or.inr ⟨by rfl, rfl⟩) hHeld ?_; try simp only [Act.put, List.setIfInBounds_toArray, List.set_cons_zero, List.set_cons_succ])
        (refine wpAnyC_take [37, 38] (i := 36) (oi := ⟨some 136, _, _, _, _, _⟩) (v := ?_) rfl (by kernel_rfl) (by kernel_rfl) (by kernel_rfl) (by kernel_rfl) (fun _ _ _ h => h) (Or.inl ⟨by rfl, ?_⟩) hHeld ?_; rotate_left; (focus (intro w hSw; (skip); go_simp; first | done | with_reducible rfl)); try simp only [Act.put, List.setIfInBounds_toArray, List.set_cons_zero, List.set_cons_succ])
        (refine wpAnyC_take [38] (i := 37) (oi := ⟨some 137, _, _, _, _, _⟩) (v := ?_) rfl (by kernel_rfl) (by kernel_rfl) (by kernel_rfl) (by kernel_rfl) (fun _ _ _ h => h) (Or.inl ⟨by rfl, ?_⟩) hHeld ?_; rotate_left; (focus (intro w hSw; (skip); go_simp; first | done | with_reducible rfl)); try simp only [Act.put, List.setIfInBounds_toArray, List.set_cons_zero, List.set_cons_succ])
        refine wpAnyC_c (oi := ⟨some 6, _, _, _, _, _⟩) rfl (by kernel_rfl) (fun K hK => ?_)
        rw [if_pos (by rfl)]
        go_simp
        refine hK.out _ _ ?_
        clear hK K
        try simp only [Act.put, List.setIfInBounds_toArray, List.set_cons_zero, List.set_cons_succ]
        refine wpAny_done (by kernel_rfl) ?_ _
        go_wp2
        go_ret
        exact ⟨rfl, HXX.out.trans hHeld⟩

set_option maxRecDepth 100000 in
set_option maxHeartbeats 1600000 in
theorem diskApart_long (sv : Value) (l : List Act4) (i : Int) (dv : Value) (data : List UInt8) (w : World) (hs : ActsIn w sv l) (hb : Bs w dv data) (h : 100 < l.length ∨ (l.length ≤ 100 ∧ 1000 < data.length)) :
    Calls Try.prog 6 #[sv, .int .i64 i, dv] w fun e w' => e = .returned (.bool true) ∧ Ext w w' := by
  obtain ⟨a, cap, rfl, _⟩ := hs.shape
  obtain ⟨da, dc, rfl⟩ := hb.shape
  rcases h with h | ⟨h, h'⟩
  · have hli : (100 : Int) < (l.length : Int) := by omega
    clear hs hb h
    go_enter Try.func6, Try.ntmps6
    go_wp2_with fail
    refine (awake4 w).mono ?_
    rintro e w1 ⟨rfl, hx1⟩
    have HX1 := Lib.hid hx1
    clear hx1
    go_wp2
    go_ret
    exact ⟨rfl, HX1.out⟩
  · have hli : ¬ (100 : Int) < (l.length : Int) := by omega
    have hdli : (1000 : Int) < (data.length : Int) := by omega
    clear hs hb h h'
    go_enter Try.func6, Try.ntmps6
    go_wp2_with fail
    refine (awake4 w).mono ?_
    rintro e w1 ⟨rfl, hx1⟩
    have HX1 := Lib.hid hx1
    clear hx1
    go_wp2
    go_ret
    exact ⟨rfl, HX1.out⟩

theorem walk_diskApart (sv : Value) (l : List Act4) (i : Int) (dv : Value) (data : List UInt8) (w : World) (hs : ActsIn w sv l) (_hi : (Lit.int .i64 i).wf = true) (hb : Bs w dv data) :
    Calls Try.prog 6 #[sv, .int .i64 i, dv] w fun e w' => e = .returned (.bool true) ∧ Ext w w' := by
  by_cases hl : l.length ≤ 100
  · by_cases hdl : data.length ≤ 1000
    · exact diskApart_core sv l i dv data w hs hb hl hdl
    · exact diskApart_long sv l i dv data w hs hb (.inr ⟨hl, by omega⟩)
  · exact diskApart_long sv l i dv data w hs hb (.inl (by omega))
end Go.Proofs.Ytmlancmcgcjodaa
