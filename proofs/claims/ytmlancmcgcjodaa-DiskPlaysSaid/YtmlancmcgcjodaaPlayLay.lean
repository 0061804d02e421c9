/- jetwaylaw04.play: writes. -/
import Derived.Test.YtmlancmcgcjodaaPlay
namespace Go.Proofs.Ytmlancmcgcjodaa
open Go.RowKit

set_option maxRecDepth 100000 in
set_option maxHeartbeats 6400000 in
theorem play_lay1 {w0 w : World} {X : Nat → Prop} {p : Nat} {d : D.Dsk} {r : Ref4} {sv wv : Value} (h : Held w0 w X p d) (hr : RefAt w X r sv wv) (hrel : Rel d r) (hlen : R4.len r ≤ 900000) (i n : Int) (da ka : Option Addr) (dn dc kn kc : Nat) (data : List UInt8) (hb : Bs w (.slice da dn dc) data) (hbX : data = [] ∨ ∀ k, (Value.slice da dn dc).ownBlock = some k → X k) (hdl : data.length ≤ 140737488351232) :
    Calls Try.prog 24 #[.pointer (some ⟨p, 0, none⟩), rv r sv wv, .agg #[.int .i64 1, .int .i64 i, .int .i64 n, .slice da dn dc, .slice ka kn kc]] w fun e w' => PlayOut w0 w w' X (R4.len r) e := by
  have HB := Lib.hid hb
  have HBX := Lib.hid hbX
  clear hb hbX
  have hswl : r.safe.length + r.wait.length ≤ 900000 := hlen
  have hwait : d.wait.length ≤ 1000000 := by rw [hrel.wait]; omega
  have HREL := Lib.hid hrel
  obtain ⟨sa, sn, sc, hsv⟩ := hr.safe.any
  obtain ⟨wa, wn, wc', hwv⟩ := hr.wait.any
  subst hsv
  subst hwv
  obtain ⟨rn, safe, wait, armed, down, after⟩ := r
  simp only at hswl
  unfold rv
  simp only
  have hx1 : Ext w (((w.alloc (.cells #[.int .i64 rn, .slice sa sn sc, .slice wa wn wc', .bool armed, .bool down, .int .i64 after] 51)).alloc (.cells #[.int .i64 1, .int .i64 i, .int .i64 n, .slice da dn dc, .slice ka kn kc] 56)).alloc (.cells #[.int .i64 0, .slice none 0 0, .slice none 0 0, .bool false, .bool false, .int .i64 0] 51)) := ((Ext.of_alloc w _).alloc _).alloc _
  have hPS := PS.start h #[.int .i64 rn, .slice sa sn sc, .slice wa wn wc', .bool armed, .bool down, .int .i64 after] #[.int .i64 1, .int .i64 i, .int .i64 n, .slice da dn dc, .slice ka kn kc] #[.int .i64 0, .slice none 0 0, .slice none 0 0, .bool false, .bool false, .int .i64 0]
  have hRA := hr.all hx1
  clear h hr hrel
  go_enter Try.func24, Try.ntmps24
  go_upto_region 1 with (fail)
  generalize ((w.alloc (.cells #[.int .i64 rn, .slice sa sn sc, .slice wa wn wc', .bool armed, .bool down, .int .i64 after] 51)).alloc (.cells #[.int .i64 1, .int .i64 i, .int .i64 n, .slice da dn dc, .slice ka kn kc] 56)).alloc (.cells #[.int .i64 0, .slice none 0 0, .slice none 0 0, .bool false, .bool false, .int .i64 0] 51) = w1 at *
  generalize New X w w1 = Y at *
  generalize w.heap.size + 1 + 1 = b7 at *
  generalize w.heap.size + 1 = b5 at *
  generalize w.heap.size = b4 at *
  have HX1 := Lib.hid hx1
  have HPS := Lib.hid hPS
  have HRA := Lib.hid hRA
  have n45 := hPS.n45
  have n47 := hPS.n47
  have n57 := hPS.n57
  obtain ⟨c0, c1, c2, c3, c4, c5, _⟩ := box_facts hPS.box4
  obtain ⟨e0, e1, e2, e3, e4⟩ := box5_facts hPS.box5
  clear hx1 hPS hRA
  have HB4 := Lib.hid (show b4 < w1.heap.size ∧ b5 < w1.heap.size ∧ b7 < w1.heap.size from ⟨blk_lt HPS.out.box4, blk_lt HPS.out.box5, blk_lt HPS.out.box7⟩)
  have HXL := Lib.hid (show ∀ k, X k → k < w1.heap.size from fun k hk => HPS.out.held.lt k (HPS.out.sub k hk))
  have HWL := Lib.hid (show w0.heap.size ≤ w1.heap.size from HPS.out.held.ext.size)
  have hbx : Hid (∀ v, Keeps X w v → Bs v (.slice da dn dc) data) := fun v hv => Reads.mod_or HB.out hv (HBX.out.imp (fun e => by rw [e]; rfl) (fun h k e hn => hn (h k e)))
  have e3a := (Ext.of_alloc w1 (.cells #[] 5)).cell e3
  go_wp2_with (first
    | ((with_reducible show wpList _ _ _ (⟨some 23, _, _, _, _, _⟩ :: _) _ _); refine wpl_append_b _ rfl _ _ rfl w1.heap.size (.slice (some ⟨w1.heap.size, 0, none⟩) 0 0) [] (by rfl) (own_empty w1 w1.heap.size 5 (Nat.le_refl _)) (.slice da dn dc) data (by rfl) ((hbx.out w1 HPS.out.kp).ext (Ext.of_alloc w1 _)) data rfl (by omega) (Ext.of_alloc w1 _).size ?_; intro v1 w2 hown2 hgrow2; have HX2 := Lib.hid ((Ext.of_alloc w1 (.cells #[] 5)).grown hgrow2 (fun k hk => by simp [Value.ownBlock] at hk; omega)); have HO2 := Lib.hid hown2; have hPSn := HPS.out.ext HX2.out; have hRAn := HRA.out.all HX2.out; clear HPS HRA hown2 hgrow2; have HPS := Lib.hid hPSn; have HRA := Lib.hid hRAn; clear hPSn hRAn e3a; clear c0 c1 c2 c3 c4 c5 e0 e1 e2 e3 e4; obtain ⟨c0, c1, c2, c3, c4, c5, _⟩ := box_facts HPS.out.box4; obtain ⟨e0, e1, e2, e3, e4⟩ := box5_facts HPS.out.box5; have hcv := (Bs.of_own HO2.out).toString (P := Try.prog) 31 9 5 Try.underlying31 Try.underlying5 Try.underlying9)
    | fail)
  have HOB := HO2
  have HBY := Lib.hid (show ∀ k, v1.ownBlock = some k → (New Y w1 w2) k ∧ w1.heap.size ≤ k from fun k hk => ⟨.inr ⟨(HOB.out.lt k hk).1, (HOB.out.lt k hk).2⟩, Nat.le_trans (Nat.le_refl _) (HOB.out.lt k hk).1⟩)
  have hC := ref_lay ⟨rn, safe, wait, armed, down, after⟩ _ (.slice sa sn sc) (.slice wa wn wc') i (data) w2 HRA.out (show wait.length + 1 ≤ 1000000 by omega) (by have := (Bs.of_own HOB.out).length_le; omega)
  unfold rv at hC
  simp only at hC
  have HQ := Lib.hid (HREL.out.lay i (data))
  have HLN := Lib.hid (lay_len ⟨rn, safe, wait, armed, down, after⟩ i (data))
  generalize R4.lay ⟨rn, safe, wait, armed, down, after⟩ i (data) = RES at *
  obtain ⟨⟨qn, qS, qW, qr, qd, qf⟩, qk⟩ := RES
  simp only at hC HQ HLN
  have HC := Lib.hid hC
  clear hC
  refine HC.out.mono ?_
  clear HC
  rintro e w4 ⟨sv', wv', rfl, hra, hx4⟩
  unfold rv
  simp only
  have hPSn := HPS.out.ext hx4
  have HOC := Lib.hid (hx4.keptOwn HOB.out)
  have HYC := Lib.hid (show ∀ k, v1.ownBlock = some k → New (New Y w1 w2) w2 w4 k ∧ w1.heap.size ≤ k from fun k hk => ⟨.inl (HBY.out k hk).1, (HBY.out k hk).2⟩)
  generalize New (New Y w1 w2) w2 w4 = Y5 at *
  clear HPS HRA
  have HPS := Lib.hid hPSn
  have HRA := Lib.hid hra
  clear hPSn hra hx4 HOB HBY
  obtain ⟨qa, qs, qc, hsv⟩ := HRA.out.safe.any
  obtain ⟨va, vs, vc, hwv⟩ := HRA.out.wait.any
  subst hsv
  subst hwv
  try clear hcv
  clear c0 c1 c2 c3 c4 c5 e0 e1 e2 e3 e4
  obtain ⟨c0, c1, c2, c3, c4, c5, _⟩ := box_facts HPS.out.box4
  obtain ⟨e0, e1, e2, e3, e4⟩ := box5_facts HPS.out.box5
  go_wp2_with (first
    | ((with_reducible show wpList _ _ _ (⟨none, Op.store _ (Operand.tmp 4) _, _, _, _, _⟩ :: _) _ _); refine wpl_store_all _ rfl 51 _ _ rfl b4 51 [_, _, _, _, _, _] HPS.out.box4 rfl [.int .i64 qn, .slice qa qs qc, .slice va vs vc, .bool qr, .bool qd, .int .i64 qf] rfl rfl size_d4 (by simp [Value.oneCell']) ?_; intro w5 hbn hmn hszn; have hPSn := HPS.out.store hmn hbn; have hRAn := HRA.out.store HPS.out.box4 hmn; clear HPS HRA; have HPS := Lib.hid hPSn; have HRA := Lib.hid hRAn; have HMN := Lib.hid hmn; clear hPSn hRAn hmn hbn hszn; clear c0 c1 c2 c3 c4 c5 e0 e1 e2 e3 e4; obtain ⟨c0, c1, c2, c3, c4, c5, _⟩ := box_facts HPS.out.box4; obtain ⟨e0, e1, e2, e3, e4⟩ := box5_facts HPS.out.box5)
    | fail)
  have HO5 := Lib.hid (ownsRow_mod HOC.out HMN.out (fun k hk e => by have h1 := (HYC.out k hk).2; have h2 := HB4.out; omega))
  clear HOC HMN
  refine (held_write_X HPS.out.held i v1 (data) (Bs.of_own HO5.out) (fun k hk => (HYC.out k hk).1) (by omega)).mono ?_
  rintro e w6 ⟨rfl, hstep⟩
  rw [HQ.out.2]
  have hPSn := HPS.out.step hstep
  have hRAn := HRA.out.keeps hstep.2
  have HO6 := Lib.hid (hstep.2.own HO5.out (fun k hk => (HYC.out k hk).1))
  clear HPS HRA HO5
  have HPS := Lib.hid hPSn
  have HRA := Lib.hid hRAn
  clear hPSn hRAn hstep
  clear c0 c1 c2 c3 c4 c5 e0 e1 e2 e3 e4
  obtain ⟨c0, c1, c2, c3, c4, c5, _⟩ := box_facts HPS.out.box4
  obtain ⟨e0, e1, e2, e3, e4⟩ := box5_facts HPS.out.box5
  have hB4 := HB4.out
  rcases own_shape HO6.out with ⟨oa, oc, rfl, h0⟩ | ⟨g, oc, rfl, hp, hg⟩
  · have hde : data = [] := List.eq_nil_of_length_eq_zero h0
    subst hde
    go_wp2
    refine wp_loop_rounds 1 ?_
    rw [rounds_succ]
    have hHeld := Ext.of_drew w6
    go_wp2_with fail
    refine wp_region_C (fun w' => Ext w6 w') 10 (by kernel_rfl) ?_
    generalize w6.drew = wz at *
    (refine wpAnyC_take [10] (i := 0) (oi := ⟨some 130, _, _, _, _, _⟩) (v := ?_) rfl (by kernel_rfl) (by kernel_rfl) (by kernel_rfl) (by kernel_rfl) (fun _ _ _ h => h) (Or.inl ⟨by rfl, ?_⟩) hHeld ?_; rotate_left; (focus (intro w hSw; (skip); go_simp; first | done | with_reducible rfl)); try simp only [Act.put, List.setIfInBounds_toArray, List.set_cons_zero, List.set_cons_succ])
    (refine wpAnyC_take [10] (i := 1) (oi := ⟨some 131, _, _, _, _, _⟩) (v := ?_) rfl (by kernel_rfl) (by kernel_rfl) (by kernel_rfl) (by kernel_rfl) (fun _ _ _ h => h) (Or.inl ⟨by rfl, ?_⟩) hHeld ?_; rotate_left; (focus (intro w hSw; (have q0 := hSw.cell c0; have q1 := hSw.cell c1; have q2 := hSw.cell c2; have q3 := hSw.cell c3; have q4 := hSw.cell c4; have q5 := hSw.cell c5); go_simp; first | done | with_reducible rfl)); try simp only [Act.put, List.setIfInBounds_toArray, List.set_cons_zero, List.set_cons_succ])
    (refine wpAnyC_take [3, 4, 9, 10] (i := 2) (oi := ⟨some 132, _, _, _, _, _⟩) (v := ?_) rfl (by kernel_rfl) (by kernel_rfl) (by kernel_rfl) (by kernel_rfl) (fun _ _ _ h => h) (Or.inl ⟨by rfl, ?_⟩) hHeld ?_; rotate_left; (focus (intro w hSw; (skip); go_simp; first | done | with_reducible rfl)); try simp only [Act.put, List.setIfInBounds_toArray, List.set_cons_zero, List.set_cons_succ])
    (refine wpAnyC_take [4, 9, 10] (i := 3) (oi := ⟨some 133, _, _, _, _, _⟩) (v := ?_) rfl (by kernel_rfl) (by kernel_rfl) (by kernel_rfl) (by kernel_rfl) (fun _ _ _ h => h) (Or.inl ⟨by rfl, ?_⟩) hHeld ?_; rotate_left; (focus (intro w hSw; (skip); go_simp; first | done | with_reducible rfl)); try simp only [Act.put, List.setIfInBounds_toArray, List.set_cons_zero, List.set_cons_succ])
    (refine wpAnyC_take [9, 10] (i := 4) (oi := ⟨some 134, _, _, _, _, _⟩) (v := ?_) rfl (by kernel_rfl) (by kernel_rfl) (by kernel_rfl) (by kernel_rfl) (fun _ _ _ h => h) (Or.inl ⟨by rfl, ?_⟩) hHeld ?_; rotate_left; (focus (intro w hSw; (skip); go_simp; first | done | with_reducible rfl)); try simp only [Act.put, List.setIfInBounds_toArray, List.set_cons_zero, List.set_cons_succ])
    (refine wpAnyC_pure (i := 5) (oi := ⟨some 135, _, _, _, _, _⟩) (v := ?_) rfl (by kernel_rfl) (by kernel_rfl) (by kernel_rfl) (by kernel_rfl) (fun _ _ _ h => h) (Or.inl ⟨by rfl, ?_⟩) hHeld ?_; rotate_left; (focus (intro w; go_simp; first | done | with_reducible rfl)); try simp only [Act.put, List.setIfInBounds_toArray, List.set_cons_zero, List.set_cons_succ])
    (refine wpAnyC_pure (i := 6) (oi := ⟨some 136, _, _, _, _, _⟩) (v := ?_) rfl (by kernel_rfl) (by kernel_rfl) (by kernel_rfl) (by kernel_rfl) (fun _ _ _ h => h) (Or.inl ⟨by rfl, ?_⟩) hHeld ?_; rotate_left; (focus (intro w; go_simp; first | done | with_reducible rfl)); try simp only [Act.put, List.setIfInBounds_toArray, List.set_cons_zero, List.set_cons_succ])
    (refine wpAnyC_pure (i := 7) (oi := ⟨some 137, _, _, _, _, _⟩) (v := ?_) rfl (by kernel_rfl) (by kernel_rfl) (by kernel_rfl) (by kernel_rfl) (fun _ _ _ h => h) (Or.inl ⟨by rfl, ?_⟩) hHeld ?_; rotate_left; (focus (intro w; go_simp; first | done | with_reducible rfl)); try simp only [Act.put, List.setIfInBounds_toArray, List.set_cons_zero, List.set_cons_succ])
    (refine wpAnyC_pure (i := 8) (oi := ⟨some 138, _, _, _, _, _⟩) (v := ?_) rfl (by kernel_rfl) (by kernel_rfl) (by kernel_rfl) (by kernel_rfl) (fun _ _ _ h => h) (Or.inl ⟨by rfl, ?_⟩) hHeld ?_; rotate_left; (focus (intro w; go_simp; first | done | with_reducible rfl)); try simp only [Act.put, List.setIfInBounds_toArray, List.set_cons_zero, List.set_cons_succ])
    (refine wpAnyC_take [10] (i := 9) (oi := ⟨some 6, _, _, _, _, _⟩) (v := ?_) rfl (by kernel_rfl) (by kernel_rfl) (by kernel_rfl) (by kernel_rfl) (fun _ _ _ h => h) (Or.inl ⟨by rfl, ?_⟩) hHeld ?_; rotate_left; (focus (intro w hSw; (skip); go_simp; first | done | with_reducible rfl)); try simp only [Act.put, List.setIfInBounds_toArray, List.set_cons_zero, List.set_cons_succ])
    have hps := HPS.out.ext0 hHeld
    obtain ⟨d0, d1, d2, d3, d4, d5, g0, g1, g2, g3, g4, g5⟩ := box_facts hps.box7
    refine wpAnyC_c (oi := ⟨none, _, _, _, _, _⟩) rfl (by kernel_rfl) (fun K hK => ?_)
    rw [if_pos (by rfl)]
    go_simp
    have hm9 := mod_setCells (fun k => k = b7) wz b7 0 [.int .i64 qn, .slice qa qs qc, .slice va vs vc, .bool qr, .bool qd, .int .i64 qf] rfl
    have hb9 := blk_setCells b7 51 [.int .i64 qn, .slice qa qs qc, .slice va vs vc, .bool qr, .bool qd, .int .i64 qf] 0 wz _ hps.box7 (by simp)
    show K _ (wz.setCells b7 0 [.int .i64 qn, .slice qa qs qc, .slice va vs vc, .bool qr, .bool qd, .int .i64 qf])
    generalize wz.setCells b7 0 [.int .i64 qn, .slice qa qs qc, .slice va vs vc, .bool qr, .bool qd, .int .i64 qf] = w9 at *
    refine hK.out _ _ ?_
    clear hK K
    try simp only [Act.put, List.setIfInBounds_toArray, List.set_cons_zero, List.set_cons_succ]
    (refine wpAny_take (i := 11) (oi := ⟨some 8, _, _, _, _, _⟩) (v := ?_) rfl (by kernel_rfl) (by kernel_rfl) (by kernel_rfl) (fun _ _ _ h => h) (Or.inl ⟨by rfl, ?_⟩) ?_; rotate_left; (focus (intro w; go_simp; first | done | with_reducible rfl)); try simp only [Act.put, List.setIfInBounds_toArray, List.set_cons_zero, List.set_cons_succ])
    refine wpAny_done (by kernel_rfl) ?_ _
    clear d0 d1 d2 d3 d4 d5 g0 g1 g2 g3 g4 g5
    obtain ⟨d0, d1, d2, d3, d4, d5, g0, g1, g2, g3, g4, g5⟩ := box_facts hb9
    go_wp2
    refine bodyPost_ret (v := .tuple #[.pointer (some ⟨p, 0, none⟩), .agg #[.int .i64 qn, .slice qa qs qc, .slice va vs vc, .bool qr, .bool qd, .int .i64 qf], .bool true]) (by simp [results, Try.results24, go_sem, d0, d1, d2, d3, d4, d5]) rfl ⟨_, _, ⟨qn, qS, qW, qr, qd, qf⟩, _, _, rfl, hps.ends (HRA.out.ext hHeld) HQ.out.1 HLN.out hm9⟩
  · go_wp2
    go_loopw [12] (fun iv wr => ∃ k : Nat, ∃ xs : List Value, k ≤ data.length ∧ iv = .int .i64 k ∧ Hid (wr.ownsRow w1.heap.size 5 1 (.slice (some ⟨g, 0, none⟩) data.length oc) data.length xs) ∧ Hid (PS w0 w wr X Y5 b4 b5 b7 p (D.write d i data) #[.int .i64 qn, .slice qa qs qc, .slice va vs vc, .bool qr, .bool qd, .int .i64 qf] #[.int .i64 1, .int .i64 i, .int .i64 n, .slice da dn dc, .slice ka kn kc] #[.int .i64 0, .slice none 0 0, .slice none 0 0, .bool false, .bool false, .int .i64 0]) ∧ Hid (RefAt wr Y5 ⟨qn, qS, qW, qr, qd, qf⟩ (.slice qa qs qc) (.slice va vs vc))) (fun iv _ => data.length - (intOf iv).toNat)
    case atStart => exact ⟨0, _, by omega, rfl, HO6, HPS, HRA⟩
    case round =>
      obtain ⟨k, xs, hk, rfl, hown, hps, hra⟩ := hrel
      clear HO6 HPS HRA c0 c1 c2 c3 c4 c5 e0 e1 e2 e3 e4
      by_cases hlt : k < data.length
      · have hlti : (k : Int) < (data.length : Int) := by omega
        have hxl : k < xs.length := by have := hown.out.1; omega
        have hcell := hown.out.cellAt k (by omega)
        rw [List.getElem?_eq_getElem hxl] at hcell
        have hfro := hown.out.frozenAt k
        have HST := Lib.hid (hown.out.stored k (.int .u8 238)).1
        have hm : Mod (fun k => k = g) wr (wr.setCell ⟨g, k, none⟩ (.int .u8 238)) := Mod.setCell wr _ _ rfl
        have hYg := HYC.out g rfl
        have hB4 := HB4.out
        have hWl := HWL.out
        have HPS2 := Lib.hid (hps.out.other hm hYg.1 (by have := hps.out.h4; omega) (fun hx => by have := HXL.out _ hx; omega) (by omega) (by omega) (by omega))
        obtain ⟨cur, hcur⟩ := own_blk hown.out
        have HRA2 := Lib.hid (RefAt.mk (hra.out.safe.keeps hm (hra.out.safe.neT hcur (by decide))) (hra.out.wait.keeps hm (hra.out.wait.neT hcur (by decide))) hra.out.sX hra.out.wX)
        generalize xs[k] = u at hcell
        clear hown hps hra hm hcur
        go_wp2
        go_roundw
        case rel => exact ⟨k + 1, _, by omega, by go_num, HST, HPS2, HRA2⟩
        case measure => (simp [intOf]; try omega)
      · have HPS := hps
        have HRA := hra
        clear hown hps hra
        obtain ⟨c0, c1, c2, c3, c4, c5, _⟩ := box_facts HPS.out.box4
        obtain ⟨e0, e1, e2, e3, e4⟩ := box5_facts HPS.out.box5
        have hHeld := Ext.of_drew wr
        go_wp2_with fail
        refine wp_region_C (fun w' => Ext wr w') 10 (by kernel_rfl) ?_
        generalize wr.drew = wz at *
        (refine wpAnyC_take [10] (i := 0) (oi := ⟨some 130, _, _, _, _, _⟩) (v := ?_) rfl (by kernel_rfl) (by kernel_rfl) (by kernel_rfl) (by kernel_rfl) (fun _ _ _ h => h) (Or.inl ⟨by rfl, ?_⟩) hHeld ?_; rotate_left; (focus (intro w hSw; (skip); go_simp; first | done | with_reducible rfl)); try simp only [Act.put, List.setIfInBounds_toArray, List.set_cons_zero, List.set_cons_succ])
        (refine wpAnyC_take [10] (i := 1) (oi := ⟨some 131, _, _, _, _, _⟩) (v := ?_) rfl (by kernel_rfl) (by kernel_rfl) (by kernel_rfl) (by kernel_rfl) (fun _ _ _ h => h) (Or.inl ⟨by rfl, ?_⟩) hHeld ?_; rotate_left; (focus (intro w hSw; (have q0 := hSw.cell c0; have q1 := hSw.cell c1; have q2 := hSw.cell c2; have q3 := hSw.cell c3; have q4 := hSw.cell c4; have q5 := hSw.cell c5); go_simp; first | done | with_reducible rfl)); try simp only [Act.put, List.setIfInBounds_toArray, List.set_cons_zero, List.set_cons_succ])
        (refine wpAnyC_take [3, 4, 9, 10] (i := 2) (oi := ⟨some 132, _, _, _, _, _⟩) (v := ?_) rfl (by kernel_rfl) (by kernel_rfl) (by kernel_rfl) (by kernel_rfl) (fun _ _ _ h => h) (Or.inl ⟨by rfl, ?_⟩) hHeld ?_; rotate_left; (focus (intro w hSw; (skip); go_simp; first | done | with_reducible rfl)); try simp only [Act.put, List.setIfInBounds_toArray, List.set_cons_zero, List.set_cons_succ])
        (refine wpAnyC_take [4, 9, 10] (i := 3) (oi := ⟨some 133, _, _, _, _, _⟩) (v := ?_) rfl (by kernel_rfl) (by kernel_rfl) (by kernel_rfl) (by kernel_rfl) (fun _ _ _ h => h) (Or.inl ⟨by rfl, ?_⟩) hHeld ?_; rotate_left; (focus (intro w hSw; (skip); go_simp; first | done | with_reducible rfl)); try simp only [Act.put, List.setIfInBounds_toArray, List.set_cons_zero, List.set_cons_succ])
        (refine wpAnyC_take [9, 10] (i := 4) (oi := ⟨some 134, _, _, _, _, _⟩) (v := ?_) rfl (by kernel_rfl) (by kernel_rfl) (by kernel_rfl) (by kernel_rfl) (fun _ _ _ h => h) (Or.inl ⟨by rfl, ?_⟩) hHeld ?_; rotate_left; (focus (intro w hSw; (skip); go_simp; first | done | with_reducible rfl)); try simp only [Act.put, List.setIfInBounds_toArray, List.set_cons_zero, List.set_cons_succ])
        (refine wpAnyC_pure (i := 5) (oi := ⟨some 135, _, _, _, _, _⟩) (v := ?_) rfl (by kernel_rfl) (by kernel_rfl) (by kernel_rfl) (by kernel_rfl) (fun _ _ _ h => h) (Or.inl ⟨by rfl, ?_⟩) hHeld ?_; rotate_left; (focus (intro w; go_simp; first | done | with_reducible rfl)); try simp only [Act.put, List.setIfInBounds_toArray, List.set_cons_zero, List.set_cons_succ])
        (refine wpAnyC_pure (i := 6) (oi := ⟨some 136, _, _, _, _, _⟩) (v := ?_) rfl (by kernel_rfl) (by kernel_rfl) (by kernel_rfl) (by kernel_rfl) (fun _ _ _ h => h) (Or.inl ⟨by rfl, ?_⟩) hHeld ?_; rotate_left; (focus (intro w; go_simp; first | done | with_reducible rfl)); try simp only [Act.put, List.setIfInBounds_toArray, List.set_cons_zero, List.set_cons_succ])
        (refine wpAnyC_pure (i := 7) (oi := ⟨some 137, _, _, _, _, _⟩) (v := ?_) rfl (by kernel_rfl) (by kernel_rfl) (by kernel_rfl) (by kernel_rfl) (fun _ _ _ h => h) (Or.inl ⟨by rfl, ?_⟩) hHeld ?_; rotate_left; (focus (intro w; go_simp; first | done | with_reducible rfl)); try simp only [Act.put, List.setIfInBounds_toArray, List.set_cons_zero, List.set_cons_succ])
        (refine wpAnyC_pure (i := 8) (oi := ⟨some 138, _, _, _, _, _⟩) (v := ?_) rfl (by kernel_rfl) (by kernel_rfl) (by kernel_rfl) (by kernel_rfl) (fun _ _ _ h => h) (Or.inl ⟨by rfl, ?_⟩) hHeld ?_; rotate_left; (focus (intro w; go_simp; first | done | with_reducible rfl)); try simp only [Act.put, List.setIfInBounds_toArray, List.set_cons_zero, List.set_cons_succ])
        (refine wpAnyC_take [10] (i := 9) (oi := ⟨some 6, _, _, _, _, _⟩) (v := ?_) rfl (by kernel_rfl) (by kernel_rfl) (by kernel_rfl) (by kernel_rfl) (fun _ _ _ h => h) (Or.inl ⟨by rfl, ?_⟩) hHeld ?_; rotate_left; (focus (intro w hSw; (skip); go_simp; first | done | with_reducible rfl)); try simp only [Act.put, List.setIfInBounds_toArray, List.set_cons_zero, List.set_cons_succ])
        have hps := HPS.out.ext0 hHeld
        obtain ⟨d0, d1, d2, d3, d4, d5, g0, g1, g2, g3, g4, g5⟩ := box_facts hps.box7
        refine wpAnyC_c (oi := ⟨none, _, _, _, _, _⟩) rfl (by kernel_rfl) (fun K hK => ?_)
        rw [if_pos (by rfl)]
        go_simp
        have hm9 := mod_setCells (fun k => k = b7) wz b7 0 [.int .i64 qn, .slice qa qs qc, .slice va vs vc, .bool qr, .bool qd, .int .i64 qf] rfl
        have hb9 := blk_setCells b7 51 [.int .i64 qn, .slice qa qs qc, .slice va vs vc, .bool qr, .bool qd, .int .i64 qf] 0 wz _ hps.box7 (by simp)
        show K _ (wz.setCells b7 0 [.int .i64 qn, .slice qa qs qc, .slice va vs vc, .bool qr, .bool qd, .int .i64 qf])
        generalize wz.setCells b7 0 [.int .i64 qn, .slice qa qs qc, .slice va vs vc, .bool qr, .bool qd, .int .i64 qf] = w9 at *
        refine hK.out _ _ ?_
        clear hK K
        try simp only [Act.put, List.setIfInBounds_toArray, List.set_cons_zero, List.set_cons_succ]
        (refine wpAny_take (i := 11) (oi := ⟨some 8, _, _, _, _, _⟩) (v := ?_) rfl (by kernel_rfl) (by kernel_rfl) (by kernel_rfl) (fun _ _ _ h => h) (Or.inl ⟨by rfl, ?_⟩) ?_; rotate_left; (focus (intro w; go_simp; first | done | with_reducible rfl)); try simp only [Act.put, List.setIfInBounds_toArray, List.set_cons_zero, List.set_cons_succ])
        refine wpAny_done (by kernel_rfl) ?_ _
        clear d0 d1 d2 d3 d4 d5 g0 g1 g2 g3 g4 g5
        obtain ⟨d0, d1, d2, d3, d4, d5, g0, g1, g2, g3, g4, g5⟩ := box_facts hb9
        go_wp2
        refine bodyPost_ret (v := .tuple #[.pointer (some ⟨p, 0, none⟩), .agg #[.int .i64 qn, .slice qa qs qc, .slice va vs vc, .bool qr, .bool qd, .int .i64 qf], .bool true]) (by simp [results, Try.results24, go_sem, d0, d1, d2, d3, d4, d5]) rfl ⟨_, _, ⟨qn, qS, qW, qr, qd, qf⟩, _, _, rfl, hps.ends (HRA.out.ext hHeld) HQ.out.1 HLN.out hm9⟩

set_option maxRecDepth 100000 in
set_option maxHeartbeats 6400000 in
theorem play_lay0 {w0 w : World} {X : Nat → Prop} {p : Nat} {d : D.Dsk} {r : Ref4} {sv wv : Value} (h : Held w0 w X p d) (hr : RefAt w X r sv wv) (hrel : Rel d r) (hlen : R4.len r ≤ 900000) (i n : Int) (da ka : Option Addr) (dn dc kn kc : Nat) (data : List UInt8) (hb : Bs w (.slice da dn dc) data) (hbX : data = [] ∨ ∀ k, (Value.slice da dn dc).ownBlock = some k → X k) (hdl : data.length ≤ 140737488351232) :
    Calls Try.prog 24 #[.pointer (some ⟨p, 0, none⟩), rv r sv wv, .agg #[.int .i64 0, .int .i64 i, .int .i64 n, .slice da dn dc, .slice ka kn kc]] w fun e w' => PlayOut w0 w w' X (R4.len r) e := by
  have HB := Lib.hid hb
  have HBX := Lib.hid hbX
  clear hb hbX
  have hswl : r.safe.length + r.wait.length ≤ 900000 := hlen
  have hwait : d.wait.length ≤ 1000000 := by rw [hrel.wait]; omega
  have HREL := Lib.hid hrel
  obtain ⟨sa, sn, sc, hsv⟩ := hr.safe.any
  obtain ⟨wa, wn, wc', hwv⟩ := hr.wait.any
  subst hsv
  subst hwv
  obtain ⟨rn, safe, wait, armed, down, after⟩ := r
  simp only at hswl
  unfold rv
  simp only
  have hx1 : Ext w (((w.alloc (.cells #[.int .i64 rn, .slice sa sn sc, .slice wa wn wc', .bool armed, .bool down, .int .i64 after] 51)).alloc (.cells #[.int .i64 0, .int .i64 i, .int .i64 n, .slice da dn dc, .slice ka kn kc] 56)).alloc (.cells #[.int .i64 0, .slice none 0 0, .slice none 0 0, .bool false, .bool false, .int .i64 0] 51)) := ((Ext.of_alloc w _).alloc _).alloc _
  have hPS := PS.start h #[.int .i64 rn, .slice sa sn sc, .slice wa wn wc', .bool armed, .bool down, .int .i64 after] #[.int .i64 0, .int .i64 i, .int .i64 n, .slice da dn dc, .slice ka kn kc] #[.int .i64 0, .slice none 0 0, .slice none 0 0, .bool false, .bool false, .int .i64 0]
  have hRA := hr.all hx1
  clear h hr hrel
  go_enter Try.func24, Try.ntmps24
  go_upto_region 1 with (fail)
  generalize ((w.alloc (.cells #[.int .i64 rn, .slice sa sn sc, .slice wa wn wc', .bool armed, .bool down, .int .i64 after] 51)).alloc (.cells #[.int .i64 0, .int .i64 i, .int .i64 n, .slice da dn dc, .slice ka kn kc] 56)).alloc (.cells #[.int .i64 0, .slice none 0 0, .slice none 0 0, .bool false, .bool false, .int .i64 0] 51) = w1 at *
  generalize New X w w1 = Y at *
  generalize w.heap.size + 1 + 1 = b7 at *
  generalize w.heap.size + 1 = b5 at *
  generalize w.heap.size = b4 at *
  have HX1 := Lib.hid hx1
  have HPS := Lib.hid hPS
  have HRA := Lib.hid hRA
  have n45 := hPS.n45
  have n47 := hPS.n47
  have n57 := hPS.n57
  obtain ⟨c0, c1, c2, c3, c4, c5, _⟩ := box_facts hPS.box4
  obtain ⟨e0, e1, e2, e3, e4⟩ := box5_facts hPS.box5
  clear hx1 hPS hRA
  have HB4 := Lib.hid (show b4 < w1.heap.size ∧ b5 < w1.heap.size ∧ b7 < w1.heap.size from ⟨blk_lt HPS.out.box4, blk_lt HPS.out.box5, blk_lt HPS.out.box7⟩)
  have HXL := Lib.hid (show ∀ k, X k → k < w1.heap.size from fun k hk => HPS.out.held.lt k (HPS.out.sub k hk))
  have HWL := Lib.hid (show w0.heap.size ≤ w1.heap.size from HPS.out.held.ext.size)
  have hbx : Hid (∀ v, Keeps X w v → Bs v (.slice da dn dc) data) := fun v hv => Reads.mod_or HB.out hv (HBX.out.imp (fun e => by rw [e]; rfl) (fun h k e hn => hn (h k e)))
  have e3a := (Ext.of_alloc w1 (.cells #[] 5)).cell e3
  go_wp2_with (first
    | ((with_reducible show wpList _ _ _ (⟨some 23, _, _, _, _, _⟩ :: _) _ _); refine wpl_append_b _ rfl _ _ rfl w1.heap.size (.slice (some ⟨w1.heap.size, 0, none⟩) 0 0) [] (by rfl) (own_empty w1 w1.heap.size 5 (Nat.le_refl _)) (.slice da dn dc) data (by rfl) ((hbx.out w1 HPS.out.kp).ext (Ext.of_alloc w1 _)) data rfl (by omega) (Ext.of_alloc w1 _).size ?_; intro v1 w2 hown2 hgrow2; have HX2 := Lib.hid ((Ext.of_alloc w1 (.cells #[] 5)).grown hgrow2 (fun k hk => by simp [Value.ownBlock] at hk; omega)); have HO2 := Lib.hid hown2; have hPSn := HPS.out.ext HX2.out; have hRAn := HRA.out.all HX2.out; clear HPS HRA hown2 hgrow2; have HPS := Lib.hid hPSn; have HRA := Lib.hid hRAn; clear hPSn hRAn e3a; clear c0 c1 c2 c3 c4 c5 e0 e1 e2 e3 e4; obtain ⟨c0, c1, c2, c3, c4, c5, _⟩ := box_facts HPS.out.box4; obtain ⟨e0, e1, e2, e3, e4⟩ := box5_facts HPS.out.box5; have hcv := (Bs.of_own HO2.out).toString (P := Try.prog) 31 9 5 Try.underlying31 Try.underlying5 Try.underlying9)
    | fail)
  refine (full_any (.slice da dn dc) data w2 (hbx.out w2 HPS.out.kp)).mono ?_
  rintro e w3 ⟨rfl, hown3, hx3⟩
  have hPSn := HPS.out.ext hx3
  have hRAn := HRA.out.all hx3
  have HOB := Lib.hid (show w3.ownsRow w2.heap.size 5 1 (.slice (some ⟨w2.heap.size, 0, none⟩) 512 512) (D.full data).length ((D.full data).map byteVal) by rw [full_len]; exact hown3)
  have hx23 := hx3.size
  clear HPS HRA hx3 hown3
  have HPS := Lib.hid hPSn
  have HRA := Lib.hid hRAn
  clear hPSn hRAn hcv
  clear c0 c1 c2 c3 c4 c5 e0 e1 e2 e3 e4
  obtain ⟨c0, c1, c2, c3, c4, c5, _⟩ := box_facts HPS.out.box4
  obtain ⟨e0, e1, e2, e3, e4⟩ := box5_facts HPS.out.box5
  have hcv := (Bs.of_own HOB.out).toString (P := Try.prog) 31 9 5 Try.underlying31 Try.underlying5 Try.underlying9
  go_wp2_with fail
  have HBY := Lib.hid (show ∀ k, (Value.slice (some ⟨w2.heap.size, 0, none⟩) 512 512).ownBlock = some k → (New (New Y w1 w2) w2 w3) k ∧ w1.heap.size ≤ k from fun k hk => ⟨.inr ⟨(HOB.out.lt k hk).1, (HOB.out.lt k hk).2⟩, Nat.le_trans HX2.out.size (HOB.out.lt k hk).1⟩)
  have hC := ref_lay ⟨rn, safe, wait, armed, down, after⟩ _ (.slice sa sn sc) (.slice wa wn wc') i (D.full data) w3 HRA.out (show wait.length + 1 ≤ 1000000 by omega) (by have := (Bs.of_own HOB.out).length_le; omega)
  unfold rv at hC
  simp only at hC
  have HQ := Lib.hid (HREL.out.lay i (D.full data))
  have HLN := Lib.hid (lay_len ⟨rn, safe, wait, armed, down, after⟩ i (D.full data))
  generalize R4.lay ⟨rn, safe, wait, armed, down, after⟩ i (D.full data) = RES at *
  obtain ⟨⟨qn, qS, qW, qr, qd, qf⟩, qk⟩ := RES
  simp only at hC HQ HLN
  have HC := Lib.hid hC
  clear hC
  refine HC.out.mono ?_
  clear HC
  rintro e w4 ⟨sv', wv', rfl, hra, hx4⟩
  unfold rv
  simp only
  have hPSn := HPS.out.ext hx4
  have HOC := Lib.hid (hx4.keptOwn HOB.out)
  have HYC := Lib.hid (show ∀ k, (Value.slice (some ⟨w2.heap.size, 0, none⟩) 512 512).ownBlock = some k → New (New (New Y w1 w2) w2 w3) w3 w4 k ∧ w1.heap.size ≤ k from fun k hk => ⟨.inl (HBY.out k hk).1, (HBY.out k hk).2⟩)
  generalize New (New (New Y w1 w2) w2 w3) w3 w4 = Y5 at *
  clear HPS HRA
  have HPS := Lib.hid hPSn
  have HRA := Lib.hid hra
  clear hPSn hra hx4 HOB HBY
  obtain ⟨qa, qs, qc, hsv⟩ := HRA.out.safe.any
  obtain ⟨va, vs, vc, hwv⟩ := HRA.out.wait.any
  subst hsv
  subst hwv
  try clear hcv
  clear c0 c1 c2 c3 c4 c5 e0 e1 e2 e3 e4
  obtain ⟨c0, c1, c2, c3, c4, c5, _⟩ := box_facts HPS.out.box4
  obtain ⟨e0, e1, e2, e3, e4⟩ := box5_facts HPS.out.box5
  go_wp2_with (first
    | ((with_reducible show wpList _ _ _ (⟨none, Op.store _ (Operand.tmp 4) _, _, _, _, _⟩ :: _) _ _); refine wpl_store_all _ rfl 51 _ _ rfl b4 51 [_, _, _, _, _, _] HPS.out.box4 rfl [.int .i64 qn, .slice qa qs qc, .slice va vs vc, .bool qr, .bool qd, .int .i64 qf] rfl rfl size_d4 (by simp [Value.oneCell']) ?_; intro w5 hbn hmn hszn; have hPSn := HPS.out.store hmn hbn; have hRAn := HRA.out.store HPS.out.box4 hmn; clear HPS HRA; have HPS := Lib.hid hPSn; have HRA := Lib.hid hRAn; have HMN := Lib.hid hmn; clear hPSn hRAn hmn hbn hszn; clear c0 c1 c2 c3 c4 c5 e0 e1 e2 e3 e4; obtain ⟨c0, c1, c2, c3, c4, c5, _⟩ := box_facts HPS.out.box4; obtain ⟨e0, e1, e2, e3, e4⟩ := box5_facts HPS.out.box5)
    | fail)
  have HO5 := Lib.hid (ownsRow_mod HOC.out HMN.out (fun k hk e => by have h1 := (HYC.out k hk).2; have h2 := HB4.out; omega))
  clear HOC HMN
  refine (held_write_X HPS.out.held i (Value.slice (some ⟨w2.heap.size, 0, none⟩) 512 512) (D.full data) (Bs.of_own HO5.out) (fun k hk => (HYC.out k hk).1) (by omega)).mono ?_
  rintro e w6 ⟨rfl, hstep⟩
  rw [HQ.out.2]
  have hPSn := HPS.out.step hstep
  have hRAn := HRA.out.keeps hstep.2
  have HO6 := Lib.hid (hstep.2.own HO5.out (fun k hk => (HYC.out k hk).1))
  clear HPS HRA HO5
  have HPS := Lib.hid hPSn
  have HRA := Lib.hid hRAn
  clear hPSn hRAn hstep
  clear c0 c1 c2 c3 c4 c5 e0 e1 e2 e3 e4
  obtain ⟨c0, c1, c2, c3, c4, c5, _⟩ := box_facts HPS.out.box4
  obtain ⟨e0, e1, e2, e3, e4⟩ := box5_facts HPS.out.box5
  have hB4 := HB4.out
  have hfl := full_len data
  have HO7 := Lib.hid (show w6.ownsRow w2.heap.size 5 1 (.slice (some ⟨w2.heap.size, 0, none⟩) 512 512) 512 ((D.full data).map byteVal) by have h := HO6.out; rw [hfl] at h; exact h)
  clear HO6
  have HO6 := HO7
  clear HO7
  have hsz2 := HX2.out.size
  obtain ⟨oc, hoc⟩ : ∃ oc, oc = 512 := ⟨_, rfl⟩
  generalize w2.heap.size = g at *
  go_wp2
  go_loopw [12] (fun iv wr => ∃ k : Nat, ∃ xs : List Value, k ≤ 512 ∧ iv = .int .i64 k ∧ Hid (wr.ownsRow g 5 1 (.slice (some ⟨g, 0, none⟩) 512 512) 512 xs) ∧ Hid (PS w0 w wr X Y5 b4 b5 b7 p (D.write d i (D.full data)) #[.int .i64 qn, .slice qa qs qc, .slice va vs vc, .bool qr, .bool qd, .int .i64 qf] #[.int .i64 0, .int .i64 i, .int .i64 n, .slice da dn dc, .slice ka kn kc] #[.int .i64 0, .slice none 0 0, .slice none 0 0, .bool false, .bool false, .int .i64 0]) ∧ Hid (RefAt wr Y5 ⟨qn, qS, qW, qr, qd, qf⟩ (.slice qa qs qc) (.slice va vs vc))) (fun iv _ => 512 - (intOf iv).toNat)
  case atStart => exact ⟨0, _, by omega, rfl, HO6, HPS, HRA⟩
  case round =>
    obtain ⟨k, xs, hk, rfl, hown, hps, hra⟩ := hrel
    clear HO6 HPS HRA c0 c1 c2 c3 c4 c5 e0 e1 e2 e3 e4
    by_cases hlt : k < 512
    · have hlti : (k : Int) < (512 : Int) := by omega
      have hxl : k < xs.length := by have := hown.out.1; omega
      have hcell := hown.out.cellAt k (by omega)
      rw [List.getElem?_eq_getElem hxl] at hcell
      have hfro := hown.out.frozenAt k
      have HST := Lib.hid (hown.out.stored k (.int .u8 238)).1
      have hm : Mod (fun k => k = g) wr (wr.setCell ⟨g, k, none⟩ (.int .u8 238)) := Mod.setCell wr _ _ rfl
      have hYg := HYC.out g rfl
      have hB4 := HB4.out
      have hWl := HWL.out
      have HPS2 := Lib.hid (hps.out.other hm hYg.1 (by have := hps.out.h4; omega) (fun hx => by have := HXL.out _ hx; omega) (by omega) (by omega) (by omega))
      obtain ⟨cur, hcur⟩ := own_blk hown.out
      have HRA2 := Lib.hid (RefAt.mk (hra.out.safe.keeps hm (hra.out.safe.neT hcur (by decide))) (hra.out.wait.keeps hm (hra.out.wait.neT hcur (by decide))) hra.out.sX hra.out.wX)
      generalize xs[k] = u at hcell
      clear hown hps hra hm hcur
      go_wp2
      go_roundw
      case rel => exact ⟨k + 1, _, by omega, by go_num, HST, HPS2, HRA2⟩
      case measure => (simp [intOf]; try omega)
    · have HPS := hps
      have HRA := hra
      clear hown hps hra
      obtain ⟨c0, c1, c2, c3, c4, c5, _⟩ := box_facts HPS.out.box4
      obtain ⟨e0, e1, e2, e3, e4⟩ := box5_facts HPS.out.box5
      have hHeld := Ext.of_drew wr
      go_wp2_with fail
      refine wp_region_C (fun w' => Ext wr w') 10 (by kernel_rfl) ?_
      generalize wr.drew = wz at *
      (refine wpAnyC_take [10] (i := 0) (oi := ⟨some 130, _, _, _, _, _⟩) (v := ?_) rfl (by kernel_rfl) (by kernel_rfl) (by kernel_rfl) (by kernel_rfl) (fun _ _ _ h => h) (Or.inl ⟨by rfl, ?_⟩) hHeld ?_; rotate_left; (focus (intro w hSw; (skip); go_simp; first | done | with_reducible rfl)); try simp only [Act.put, List.setIfInBounds_toArray, List.set_cons_zero, List.set_cons_succ])
      (refine wpAnyC_take [10] (i := 1) (oi := ⟨some 131, _, _, _, _, _⟩) (v := ?_) rfl (by kernel_rfl) (by kernel_rfl) (by kernel_rfl) (by kernel_rfl) (fun _ _ _ h => h) (Or.inl ⟨by rfl, ?_⟩) hHeld ?_; rotate_left; (focus (intro w hSw; (have q0 := hSw.cell c0; have q1 := hSw.cell c1; have q2 := hSw.cell c2; have q3 := hSw.cell c3; have q4 := hSw.cell c4; have q5 := hSw.cell c5); go_simp; first | done | with_reducible rfl)); try simp only [Act.put, List.setIfInBounds_toArray, List.set_cons_zero, List.set_cons_succ])
      (refine wpAnyC_take [3, 4, 9, 10] (i := 2) (oi := ⟨some 132, _, _, _, _, _⟩) (v := ?_) rfl (by kernel_rfl) (by kernel_rfl) (by kernel_rfl) (by kernel_rfl) (fun _ _ _ h => h) (Or.inl ⟨by rfl, ?_⟩) hHeld ?_; rotate_left; (focus (intro w hSw; (skip); go_simp; first | done | with_reducible rfl)); try simp only [Act.put, List.setIfInBounds_toArray, List.set_cons_zero, List.set_cons_succ])
      (refine wpAnyC_take [4, 9, 10] (i := 3) (oi := ⟨some 133, _, _, _, _, _⟩) (v := ?_) rfl (by kernel_rfl) (by kernel_rfl) (by kernel_rfl) (by kernel_rfl) (fun _ _ _ h => h) (Or.inl ⟨by rfl, ?_⟩) hHeld ?_; rotate_left; (focus (intro w hSw; (skip); go_simp; first | done | with_reducible rfl)); try simp only [Act.put, List.setIfInBounds_toArray, List.set_cons_zero, List.set_cons_succ])
      (refine wpAnyC_take [9, 10] (i := 4) (oi := ⟨some 134, _, _, _, _, _⟩) (v := ?_) rfl (by kernel_rfl) (by kernel_rfl) (by kernel_rfl) (by kernel_rfl) (fun _ _ _ h => h) (Or.inl ⟨by rfl, ?_⟩) hHeld ?_; rotate_left; (focus (intro w hSw; (skip); go_simp; first | done | with_reducible rfl)); try simp only [Act.put, List.setIfInBounds_toArray, List.set_cons_zero, List.set_cons_succ])
      (refine wpAnyC_pure (i := 5) (oi := ⟨some 135, _, _, _, _, _⟩) (v := ?_) rfl (by kernel_rfl) (by kernel_rfl) (by kernel_rfl) (by kernel_rfl) (fun _ _ _ h => h) (Or.inl ⟨by rfl, ?_⟩) hHeld ?_; rotate_left; (focus (intro w; go_simp; first | done | with_reducible rfl)); try simp only [Act.put, List.setIfInBounds_toArray, List.set_cons_zero, List.set_cons_succ])
      (refine wpAnyC_pure (i := 6) (oi := ⟨some 136, _, _, _, _, _⟩) (v := ?_) rfl (by kernel_rfl) (by kernel_rfl) (by kernel_rfl) (by kernel_rfl) (fun _ _ _ h => h) (Or.inl ⟨by rfl, ?_⟩) hHeld ?_; rotate_left; (focus (intro w; go_simp; first | done | with_reducible rfl)); try simp only [Act.put, List.setIfInBounds_toArray, List.set_cons_zero, List.set_cons_succ])
      (refine wpAnyC_pure (i := 7) (oi := ⟨some 137, _, _, _, _, _⟩) (v := ?_) rfl (by kernel_rfl) (by kernel_rfl) (by kernel_rfl) (by kernel_rfl) (fun _ _ _ h => h) (Or.inl ⟨by rfl, ?_⟩) hHeld ?_; rotate_left; (focus (intro w; go_simp; first | done | with_reducible rfl)); try simp only [Act.put, List.setIfInBounds_toArray, List.set_cons_zero, List.set_cons_succ])
      (refine wpAnyC_pure (i := 8) (oi := ⟨some 138, _, _, _, _, _⟩) (v := ?_) rfl (by kernel_rfl) (by kernel_rfl) (by kernel_rfl) (by kernel_rfl) (fun _ _ _ h => h) (Or.inl ⟨by rfl, ?_⟩) hHeld ?_; rotate_left; (focus (intro w; go_simp; first | done | with_reducible rfl)); try simp only [Act.put, List.setIfInBounds_toArray, List.set_cons_zero, List.set_cons_succ])
      (refine wpAnyC_take [10] (i := 9) (oi := ⟨some 6, _, _, _, _, _⟩) (v := ?_) rfl (by kernel_rfl) (by kernel_rfl) (by kernel_rfl) (by kernel_rfl) (fun _ _ _ h => h) (Or.inl ⟨by rfl, ?_⟩) hHeld ?_; rotate_left; (focus (intro w hSw; (skip); go_simp; first | done | with_reducible rfl)); try simp only [Act.put, List.setIfInBounds_toArray, List.set_cons_zero, List.set_cons_succ])
      have hps := HPS.out.ext0 hHeld
      obtain ⟨d0, d1, d2, d3, d4, d5, g0, g1, g2, g3, g4, g5⟩ := box_facts hps.box7
      refine wpAnyC_c (oi := ⟨none, _, _, _, _, _⟩) rfl (by kernel_rfl) (fun K hK => ?_)
      rw [if_pos (by rfl)]
      go_simp
      have hm9 := mod_setCells (fun k => k = b7) wz b7 0 [.int .i64 qn, .slice qa qs qc, .slice va vs vc, .bool qr, .bool qd, .int .i64 qf] rfl
      have hb9 := blk_setCells b7 51 [.int .i64 qn, .slice qa qs qc, .slice va vs vc, .bool qr, .bool qd, .int .i64 qf] 0 wz _ hps.box7 (by simp)
      show K _ (wz.setCells b7 0 [.int .i64 qn, .slice qa qs qc, .slice va vs vc, .bool qr, .bool qd, .int .i64 qf])
      generalize wz.setCells b7 0 [.int .i64 qn, .slice qa qs qc, .slice va vs vc, .bool qr, .bool qd, .int .i64 qf] = w9 at *
      refine hK.out _ _ ?_
      clear hK K
      try simp only [Act.put, List.setIfInBounds_toArray, List.set_cons_zero, List.set_cons_succ]
      (refine wpAny_take (i := 11) (oi := ⟨some 8, _, _, _, _, _⟩) (v := ?_) rfl (by kernel_rfl) (by kernel_rfl) (by kernel_rfl) (fun _ _ _ h => h) (Or.inl ⟨by rfl, ?_⟩) ?_; rotate_left; (focus (intro w; go_simp; first | done | with_reducible rfl)); try simp only [Act.put, List.setIfInBounds_toArray, List.set_cons_zero, List.set_cons_succ])
      refine wpAny_done (by kernel_rfl) ?_ _
      clear d0 d1 d2 d3 d4 d5 g0 g1 g2 g3 g4 g5
      obtain ⟨d0, d1, d2, d3, d4, d5, g0, g1, g2, g3, g4, g5⟩ := box_facts hb9
      go_wp2
      refine bodyPost_ret (v := .tuple #[.pointer (some ⟨p, 0, none⟩), .agg #[.int .i64 qn, .slice qa qs qc, .slice va vs vc, .bool qr, .bool qd, .int .i64 qf], .bool true]) (by simp [results, Try.results24, go_sem, d0, d1, d2, d3, d4, d5]) rfl ⟨_, _, ⟨qn, qS, qW, qr, qd, qf⟩, _, _, rfl, hps.ends (HRA.out.ext hHeld) HQ.out.1 HLN.out hm9⟩
end Go.Proofs.Ytmlancmcgcjodaa
