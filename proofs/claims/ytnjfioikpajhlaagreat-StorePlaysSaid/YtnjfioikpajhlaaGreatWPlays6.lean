import Derived.Test.YtnjfioikpajhlaaGreatQSt
import Derived.Deep.DeepCutAuto
import Derived.Deep.CutBlock
set_option maxRecDepth 100000
set_option maxHeartbeats 64000000
/- The walk of StorePlays. (Printed by tools/mkwplays6.py.) -/
namespace Go.Proofs.YtnjfioikpajhlaaGreat
open Go.RowKit Go.Shelf
theorem walk_storePlays (n : Int) (sv : Value) (l : List Act6) (f t : List UInt8) (w : World) (_hwn : (Lit.int .i64 n).wf = true) (hs : Acts6In w sv l) (hkp : ∀ x ∈ l, x.keep.length <= 140737488355328) :
 Calls Tryz.prog 3 #[.int .i64 n, sv, strV f, strV t] w fun e w' => e = .returned (.bool true) /\ Ext w w' := by
 obtain ⟨a, cap, rfl, _⟩ := hs.shape
 have HS := qh hs
 have HKP := qh hkp
 clear hs hkp
 unfold strV
 go_enter Tryz.func3, Tryz.ntmps3
 go_wp2_with fail
 refine (awake6 w).mono ?_
 rintro e w1 ⟨rfl, hx1⟩
 have HX1 := qh hx1
 clear hx1
 dsimp only
 by_cases hl : 30 < l.length
 ·have hli : (30 : Int) < (l.length : Int) := by omega
  go_wp2
  go_ret
  exact ⟨rfl, HX1.out⟩
 ·have hli : (l.length : Int) <= 30 := by omega
  have hli2 : decide ((30 : Int) < (l.length : Int)) = false := decide_eq_false (by omega)
  have HLN : Hid (l.length <= 30) := by unfold Hid; omega
  clear hl
  by_cases h60 : 60 < n
  ·go_wp2
   go_ret
   exact ⟨rfl, HX1.out⟩
  ·have h60d : decide (60 < n) = false := decide_eq_false h60
   go_wp2_with fail
   by_cases hn1 : n < 1
   ·refine (disk_new_bad n w1 (.inl hn1)).mono ?_
    rintro e w2 ⟨rfl, rfl⟩
    go_wp2
    go_ret
    exact ⟨rfl, HX1.out⟩
   ·refine (held_new n w1 (by omega) (by omega)).mono ?_
    rintro e w2 ⟨rfl, hh⟩
    have HOK := qh hh.okd
    have HH := qh hh
    have HOP := qh (open6_any hh (Nat.zero_le _))
    have hbd := S6.open_bounds hh.okd
    have HRO := qh (fun (v : World) => refOpen6 ⟨n, [], [], false, false, 0⟩ (fun k => k < w1.heap.size) (.slice none 0 0) (.slice none 0 0) (D.fresh n) (Rel.fresh n) hh.okd v ⟨RowIn.nil _, RowIn.nil _, fun k hk => by simp [Value.ownBlock] at hk, fun k hk => by simp [Value.ownBlock] at hk⟩ (by show (0 : Nat) + 0 <= _; omega) hbd.1 hbd.2)
    unfold rv at HRO
    simp only at HRO
    generalize w1.heap.size + 1 = p at *
    clear hh hbd
    dsimp only
    go_wp2_with fail
    refine HOP.out.mono ?_
    clear HOP
    by_cases hn4 : n < 4
    ·have hop : S6.openS (D.fresh n) = ((W5.open_ (D.fresh n)).1, none, 1) := by
      have e : (W5.open_ (D.fresh n)).2 = 1 := by unfold W5.open_; rw [if_pos (show (D.fresh n).n < 4 from hn4)]
      unfold S6.openS
      rw [if_pos (by rw [e]; decide), e]
     rw [hop] at HRO ⊢
     rintro e w3 (⟨S, q, hS, _⟩ | ⟨_, rfl, hst⟩)
     ·cases hS
     ·have HX3 := qh (HX1.out.trans hst.1.ext)
      clear hst hop
      dsimp only
      go_wp2_with fail
      refine (HRO.out w3).mono ?_
      clear HRO
      rintro e w4 ⟨g, pv, num, rfl, hone, ⟨pa, pn, pc, rfl⟩, hx4, _⟩
      have HX4 := qh (HX3.out.trans hx4)
      clear hx4
      obtain ⟨g0, g1, g2, g3, g4, g5, g6, g7, g8⟩ := g
      have HONE := qh (show g0.oneCell' = true /\ g1.oneCell' = true /\ g2.oneCell' = true /\ g3.oneCell' = true /\ g4.oneCell' = true /\ g5.oneCell' = true /\ g6.oneCell' = true /\ g7.oneCell' = true /\ g8.oneCell' = true from hone)
      unfold s6v
      dsimp only
      have hx5 := HX4.out.alloc (.cells #[.int .i64 0, .slice none 0 0, .slice none 0 0, .bool false, .bool false, .int .i64 0, .int .u32 0, .slice none 0 0, .bool false, .slice none 0 0, .int .u64 0, .bool false] 41)
      have hb5 := heap_alloc_new w4 (.cells #[.int .i64 0, .slice none 0 0, .slice none 0 0, .bool false, .bool false, .int .i64 0, .int .u32 0, .slice none 0 0, .bool false, .slice none 0 0, .int .u64 0, .bool false] 41)
      have HTH := qh (there_blk (cs := [.int .i64 0, .slice none 0 0, .slice none 0 0, .bool false, .bool false, .int .i64 0, .int .u32 0, .slice none 0 0, .bool false, .slice none 0 0, .int .u64 0, .bool false]) hb5 0 12 (by simp))
      have HX5 := qh (Mod.ext hx5 (mod_setCells (fun z => z = w4.heap.size) (w4.alloc (.cells #[.int .i64 0, .slice none 0 0, .slice none 0 0, .bool false, .bool false, .int .i64 0, .int .u32 0, .slice none 0 0, .bool false, .slice none 0 0, .int .u64 0, .bool false] 41)) w4.heap.size 0 [g0, g1, g2, g3, g4, g5, g6, g7, g8, .slice pa pn pc, .int .u64 (num : Int), .bool false] rfl) (fun z hz => by subst hz; exact HX4.out.size))
      clear hx5 hb5 HX3 hone
      go_upto_region 10 with (first
       | ((with_reducible show wpList _ _ _ (⟨none, Op.store _ _ _, _, _, _, _⟩ :: _) _ _); refine wpList_store_mid rfl 41 _ _ rfl w4.heap.size 0 #[g0, g1, g2, g3, g4, g5, g6, g7, g8, .slice pa pn pc, .int .u64 (num : Int), .bool false] (by rfl) (by rfl) HTH.out (by kernel_rfl) (one12 HONE.out _ _ _ _ _) ?_)
       | fail)
      generalize (w4.alloc (.cells #[.int .i64 0, .slice none 0 0, .slice none 0 0, .bool false, .bool false, .int .i64 0, .int .u32 0, .slice none 0 0, .bool false, .slice none 0 0, .int .u64 0, .bool false] 41)).setCells w4.heap.size 0 _ = w5 at *
      clear HTH
      go_wp2
      refine wp_loop_rounds 1 ?_
      rw [rounds_succ]
      go_wp2
      all_goals (go_ret; exact ⟨rfl, HX5.out⟩)
    ·obtain ⟨S0, hop, hinv, hcl0⟩ := S6.PInv.start (show 4 <= n by omega) HOK.out
     rw [hop] at HRO ⊢
     rintro e w3 (⟨S, q0, hS, rfl, hq, hL, hK⟩ | ⟨hS, _⟩)
     ·obtain rfl := Option.some.inj hS
      have HI := qh hinv
      have HL := qh hL
      clear hop hinv hS hq hL hK hn1 hn4 HH HOK
      dsimp only
      go_wp2_with fail
      refine (HRO.out w3).mono ?_
      clear HRO
      rintro e w4 ⟨g, pv, num, rfl, -, -, hx4, hdet⟩
      obtain ⟨r0, sv0, wv0, lv0, rfl, rfl, -, hR, hlr⟩ := hdet S0 rfl
      clear hdet
      obtain ⟨⟨ua, un, uc, hsl1⟩, ⟨ub, um, ud, hsl2⟩, ⟨ue, uo, uf, hsl3⟩, ⟨ug, up, uh, hsl4⟩⟩ := (hR).slices
      subst hsl1
      subst hsl2
      subst hsl3
      subst hsl4
      unfold s6v gL
      have hlr2 : R4.len r0 <= 2100 := Nat.le_trans hlr (by show 0 + 0 + 2048 <= _; omega)
      have hx5 := Ext.of_alloc w4 (.cells #[.int .i64 r0.n, .slice ua un uc, .slice ub um ud, .bool r0.armed, .bool r0.down, .int .i64 r0.after, .int .u32 (S0.L.gen : Int), .slice ue uo uf, .bool S0.L.cl, .slice ug up uh, .int .u64 (S0.num : Int), .bool S0.cl] 41)
      have hb5 := heap_alloc_new w4 (.cells #[.int .i64 r0.n, .slice ua un uc, .slice ub um ud, .bool r0.armed, .bool r0.down, .int .i64 r0.after, .int .u32 (S0.L.gen : Int), .slice ue uo uf, .bool S0.L.cl, .slice ug up uh, .int .u64 (S0.num : Int), .bool S0.cl] 41)
      have hs5 : (w4.alloc (.cells #[.int .i64 r0.n, .slice ua un uc, .slice ub um ud, .bool r0.armed, .bool r0.down, .int .i64 r0.after, .int .u32 (S0.L.gen : Int), .slice ue uo uf, .bool S0.L.cl, .slice ug up uh, .int .u64 (S0.num : Int), .bool S0.cl] 41)).heap.size = w4.heap.size + 1 := World.size_alloc _ _
      obtain ⟨w5, hw5⟩ : ∃ w5, w5 = w4.alloc (.cells #[.int .i64 r0.n, .slice ua un uc, .slice ub um ud, .bool r0.armed, .bool r0.down, .int .i64 r0.after, .int .u32 (S0.L.gen : Int), .slice ue uo uf, .bool S0.L.cl, .slice ug up uh, .int .u64 (S0.num : Int), .bool S0.cl] 41) := ⟨_, rfl⟩
      rw [<- hw5] at hx5 hb5 hs5
      rw [hcl0] at hw5
      have HW5 := qh hw5
      have hsz := HL.out.toExt.size
      have hX : ∀ k, New (fun k => k < w1.heap.size) w3 w4 k -> New (fun k => k < w1.heap.size) w3 w5 k := New.up hx5.size
      have HST : Hid (QSt w1 w5 p w4.heap.size (New (fun k => k < w1.heap.size) w3 w5) q0 S0 r0 (.slice ua un uc) (.slice ub um ud) (.slice ue uo uf) (.slice ug up uh) n (2 * (0 + 1)) (2100 * (0 + 1))) :=
       ⟨HL.out.all (hx4.trans hx5), (hR.ext hx5).more hX, hb5, .inr ⟨hx4.size, by omega⟩, Nat.le_trans hsz hx4.size, HI.out.le (by omega), hlr2⟩
      clear hx4 hx5 hb5 hs5 hw5 hR hlr hlr2 HI HL hX hsz
      go_upto_region 10 with fail
      rw [show w4.alloc (.cells #[.int .i64 r0.n, .slice ua un uc, .slice ub um ud, .bool r0.armed, .bool r0.down, .int .i64 r0.after, .int .u32 (S0.L.gen : Int), .slice ue uo uf, .bool S0.L.cl, .slice ug up uh, .int .u64 (S0.num : Int), .bool false] 41) = w5 from HW5.out.symm]
      clear HW5
      generalize w4.heap.size = mb at *
      generalize New (fun k => k < w1.heap.size) w3 w5 = X0 at HST
      go_wp2_with fail
      go_loopw [11, 14] (fun sp iv wr => ∃ k : Nat, k <= l.length /\ iv = .int .i64 (k : Int) /\ ∃ (X : Nat -> Prop) (q : Nat) (S : S6.St) (r : Ref4) (sv wv lv pv : Value), sp = .pointer (some ⟨q, 0, none⟩) /\ Hid (QSt w1 wr p mb X q S r sv wv lv pv n (2 * (k + 1)) (2100 * (k + 1)))) (fun _ iv _ => l.length - (intOf iv).toNat)
      case atStart => exact ⟨0, by omega, rfl, X0, q0, S0, r0, _, _, _, _, rfl, HST⟩
      case round =>
       clear HST
       obtain ⟨k, hk, rfl, X, q, S, r, sv, wv, lv, pv, rfl, hst⟩ := hrel
       have HST0 := hst
       have hXW := qh (HX1.out.trans HST0.out.st.toExt)
       clear hst
       by_cases hlt : k < l.length
       ·have hlti : (k : Int) < (l.length : Int) := by omega
        have hlk : k < 30 := by have := HLN.out; omega
        obtain ⟨b, off, rfl, hact⟩ := HS.out.at k hlt
        have hact2 := hact.ext hXW.out
        have hkw := HKP.out _ (List.getElem_mem hlt)
        generalize l[k] = x at *
        obtain ⟨kind, xn, puts, keep⟩ := x
        obtain ⟨uv0, kv0, -, -, -, g30, -, hbk0, -, -⟩ := id hact
        obtain ⟨uv, kv, g0, g1, g2, g3, hbu, hbk, w1', w2'⟩ := hact2
        simp only at g0 g1 g2 g3 hbu hbk w1' w2' g30 hbk0 hkw
        have hkv0 : kv0 = kv := Option.some.inj ((Ext.cell hXW.out g30).symm.trans g3)
        subst hkv0
        have HKX := qh (show (keep.map Value.bool) = [] ∨ ∀ k, kv0.ownBlock = some k -> k < w1.heap.size from by
         exact (Reads.block_lt6 hbk0).imp id (fun h k hk => Nat.lt_of_lt_of_le (h k hk) HX1.out.size))
        obtain ⟨hpl, pa, pc, rfl, -⟩ := hbu.shape
        obtain ⟨ka, kc, hkv⟩ := hbk.shape
        rw [List.length_map] at hkv
        subst hkv
        have HBU := qh hbu
        have HBK := qh hbk
        have HW2 := qh (wf_i64 w2')
        have hx0 := Ext.of_alloc wr (.cells #[.int .i64 kind, .int .i64 xn, .slice pa puts.length pc, .slice ka keep.length kc] 47)
        have hb0 := heap_alloc_new wr (.cells #[.int .i64 kind, .int .i64 xn, .slice pa puts.length pc, .slice ka keep.length kc] 47)
        have hs0 : (wr.alloc (.cells #[.int .i64 kind, .int .i64 xn, .slice pa puts.length pc, .slice ka keep.length kc] 47)).heap.size = wr.heap.size + 1 := World.size_alloc _ _
        obtain ⟨wA, hwA⟩ : ∃ wA, wA = wr.alloc (.cells #[.int .i64 kind, .int .i64 xn, .slice pa puts.length pc, .slice ka keep.length kc] 47) := ⟨_, rfl⟩
        rw [<- hwA] at hx0 hb0 hs0
        have HWA := qh hwA
        have HX0 := qh hx0
        have HST := qh (HST0.out.all hx0)
        have c0 : wA.cell? ⟨wr.heap.size, 0, none⟩ = some (.int .i64 kind) := (blk_cell hb0 0).trans rfl
        have c1 : wA.cell? ⟨wr.heap.size, 1, none⟩ = some (.int .i64 xn) := (blk_cell hb0 1).trans rfl
        have c2 : wA.cell? ⟨wr.heap.size, 2, none⟩ = some (.slice pa puts.length pc) := (blk_cell hb0 2).trans rfl
        have c3 : wA.cell? ⟨wr.heap.size, 3, none⟩ = some (.slice ka keep.length kc) := (blk_cell hb0 3).trans rfl
        have HCX : Hid (New X wr wA wr.heap.size) := .inr ⟨Nat.le_refl _, by omega⟩
        have HKR := qh (HBK.out.ext hx0)
        have HUR := qh (HBU.out.ext hx0)
        have HXA := qh (HX1.out.trans HST.out.st.toExt)
        have HMA := qh (blk_lt HST0.out.box)
        have HK0 := qh hbk0
        clear hact hbk hbk0 g30 hbu w1' w2' hwA hb0 hs0 hx0 hlt hXW HBK HBU
        go_upto_region 16 with fail
        rw [show wr.alloc (.cells #[.int .i64 kind, .int .i64 xn, .slice pa puts.length pc, .slice ka keep.length kc] 47) = wA from HWA.out.symm]
        clear HWA g0 g1 g2 g3 HST0
        generalize New X wr wA = XA at *
        generalize wr.heap.size = ab at *
        go_upto_block 2 with fail
        go_cut [11] (fun sp wx => ∃ (X : Nat -> Prop) (q : Nat) (S : S6.St) (r : Ref4) (sv wv lv pv : Value), sp = .pointer (some ⟨q, 0, none⟩) /\ Hid (QSt w1 wx p mb X q S r sv wv lv pv n (2 * (k + 1 + 1)) (2100 * (k + 1 + 1))))
        case first =>
         by_cases k0 : kind = 0
         ·as_aux_lemma =>
           subst k0
           obtain ⟨⟨za, zn, zc, hsl1⟩, ⟨zb, zm, zd, hsl2⟩, ⟨ze, zo, zf, hsl3⟩, ⟨zg, zp, zh, hsl4⟩⟩ := (HST.out.ref).slices
           subst hsl1
           subst hsl2
           subst hsl3
           subst hsl4
           have hbox := HST.out.box
           unfold bxS at hbox
           obtain ⟨f0, f1, f2, f3, f4, f5, f6, f7, f8, f9, f10, f11⟩ := box12 hbox
           have hfit := HST.out.inv.fit
           have hll := hfit.len
           have hwr := writes6_any wA (gL r (.slice za zn zc) (.slice zb zm zd) S.L.gen (.slice ze zo zf) S.L.cl) (.slice zg zp zh) S.num S.cl S.l (.slice pa puts.length pc) puts HST.out.ref.prs (by omega) HST.out.ref.pL (fun x hx => by have := (hfit.pk x hx).ver; have := hfit.num; omega) HUR.out ⟨rfl, rfl, rfl, rfl, rfl, rfl, rfl, rfl, rfl⟩
           unfold s6v gL at hwr
           simp only at hwr
           have HWR := qh hwr
           have HBX := qh hbox
           have hwsl := S6.wsOf_len S.l puts
           generalize S6.wsOf S.l puts = ws at *
           have hwl : ws.length <= 70 := by omega
           clear hwr hfit hwsl hbox
           go_wp2_with fail
           refine HWR.out.mono ?_
           clear HWR f0 f1 f2 f3 f4 f5 f6 f7 f8 f9 f10 f11
           rintro e w3 ⟨xv, yv, us, rfl, hW3, hY3, hx3⟩
           have hxs := own_any hW3.row
           obtain ⟨xa, xc, rfl⟩ := hxs
           have hys := own_any hY3
           obtain ⟨ya0, yc0, rfl⟩ := hys
           have hcm := refCommit6 S n (2 * (k + 1)) r XA (.slice za zn zc) (.slice zb zm zd) (.slice ze zo zf) (.slice zg zp zh) (.slice ya0 ws.length yc0) ws w3 (HST.out.ref.ext hx3) HST.out.inv (by omega) HST.out.st.okd (RWs.of_own hY3) (by omega) (by have := HST.out.len; omega)
           have hI2 := HST.out.inv.commit HST.out.st.okd (by omega) ws
           have hpc := fun (v : World) (X' : Nat -> Prop) (hv : Stod w1 v X' p q S) (hw : WrsIn v X' (.slice xa ws.length xc) ws) => commit_any hv (.slice xa ws.length xc) ws hw (Nat.le_trans HST.out.inv.wl (by decide))
           generalize S6.commit S ws = CR at *
           obtain ⟨S2, nn, cc⟩ := CR
           unfold s6v gL at hcm
           simp only at hcm hI2
           have HCM := qh hcm
           have HI2 := qh hI2
           have HPC := qh hpc
           have HW3 := qh hW3
           have HX3 := qh hx3
           have HBX3 := qh ((Below.block (B := wA.heap.size) hx3 mb (blk_lt HBX.out)).trans HBX.out)
           clear hcm hI2 hpc hW3 hY3 hx3
           obtain ⟨f0, f1, f2, f3, f4, f5, f6, f7, f8, f9, f10, f11⟩ := box12 HBX3.out
           dsimp only
           go_wp2_with fail
           refine HCM.out.mono ?_
           clear HCM f0 f1 f2 f3 f4 f5 f6 f7 f8 f9 f10 f11
           rintro e w4 ⟨r2, sv2, wv2, lv2, pv2, rfl, hx4, hR4, hl4⟩
           obtain ⟨⟨ya, yn, yc, hsl1⟩, ⟨yb, ym, yd, hsl2⟩, ⟨ye, yo, yf, hsl3⟩, ⟨yg, yp, yh, hsl4⟩⟩ := (hR4).slices
           subst hsl1
           subst hsl2
           subst hsl3
           subst hsl4
           unfold s6v gL
           dsimp only
           have hx34 := HX3.out.trans hx4
           have hb4 := (Below.block (B := w3.heap.size) hx4 mb (blk_lt HBX3.out)).trans HBX3.out
           have HTH := qh (there_blk (cs := [.int .i64 r.n, .slice za zn zc, .slice zb zm zd, .bool r.armed, .bool r.down, .int .i64 r.after, .int .u32 (S.L.gen : Int), .slice ze zo zf, .bool S.L.cl, .slice zg zp zh, .int .u64 (S.num : Int), .bool S.cl]) hb4 0 12 (by simp))
           have hm5 := mod_setCells (fun z => z = mb) w4 mb 0 [.int .i64 r2.n, .slice ya yn yc, .slice yb ym yd, .bool r2.armed, .bool r2.down, .int .i64 r2.after, .int .u32 (S2.L.gen : Int), .slice ye yo yf, .bool S2.L.cl, .slice yg yp yh, .int .u64 (S2.num : Int), .bool S2.cl] rfl
           have hb5 : (w4.setCells mb 0 [.int .i64 r2.n, .slice ya yn yc, .slice yb ym yd, .bool r2.armed, .bool r2.down, .int .i64 r2.after, .int .u32 (S2.L.gen : Int), .slice ye yo yf, .bool S2.L.cl, .slice yg yp yh, .int .u64 (S2.num : Int), .bool S2.cl]).heap[mb]? = some (.cells #[.int .i64 r2.n, .slice ya yn yc, .slice yb ym yd, .bool r2.armed, .bool r2.down, .int .i64 r2.after, .int .u32 (S2.L.gen : Int), .slice ye yo yf, .bool S2.L.cl, .slice yg yp yh, .int .u64 (S2.num : Int), .bool S2.cl] 41 (0, 0)) := by rw [blk_setCells mb 41 [.int .i64 r2.n, .slice ya yn yc, .slice yb ym yd, .bool r2.armed, .bool r2.down, .int .i64 r2.after, .int .u32 (S2.L.gen : Int), .slice ye yo yf, .bool S2.L.cl, .slice yg yp yh, .int .u64 (S2.num : Int), .bool S2.cl] 0 w4 [.int .i64 r.n, .slice za zn zc, .slice zb zm zd, .bool r.armed, .bool r.down, .int .i64 r.after, .int .u32 (S.L.gen : Int), .slice ze zo zf, .bool S.L.cl, .slice zg zp zh, .int .u64 (S.num : Int), .bool S.cl] hb4 (by simp)]; simp
           obtain ⟨w5, hw5⟩ : ∃ w5, w5 = w4.setCells mb 0 [.int .i64 r2.n, .slice ya yn yc, .slice yb ym yd, .bool r2.armed, .bool r2.down, .int .i64 r2.after, .int .u32 (S2.L.gen : Int), .slice ye yo yf, .bool S2.L.cl, .slice yg yp yh, .int .u64 (S2.num : Int), .bool S2.cl] := ⟨_, rfl⟩
           rw [<- hw5] at hm5 hb5
           have hst4 := HST.out.st.all hx34
           have hst5 := hst4.modX hm5 (fun k e => by subst e; exact .inl HST.out.xm) (fun k e => by subst e; exact HST.out.hm)
           have hmlt := blk_lt HBX.out
           have hW5 := (HW3.out.ext hx4).mod hm5 (fun k hk e => by have := (HW3.out.row.lt k hk).1; omega) (fun u hu k hk e => by
            obtain ⟨l9, ho9⟩ := HW3.out.mem hu
            have := (ho9.lt k hk).1; omega)
           have hws5 := hW5.wrs (X := New XA wA w4) (fun k h1 h2 => .inr ⟨h1, by have : w5.heap.size = w4.heap.size := (by rw [hw5]; exact size_setCells _ _ _ _); omega⟩)
           have hpc := HPC.out w5 _ hst5 hws5
           have HPC5 := qh hpc
           have HW5 := qh hW5
           have HWE := qh hw5
           have HM5 := qh hm5
           have HB5 := qh hb5
           have hR5 : RefS w5 (New XA w3 w4) S2 r2 (.slice ya yn yc) (.slice yb ym yd) (.slice ye yo yf) (.slice yg yp yh) := by
            refine hR4.store12 hb4 (bx_str hb4 ?_) hm5
            intro a ha s
            simp only [List.mem_cons, List.not_mem_nil, or_false] at ha
            rcases ha with rfl | rfl | rfl | rfl | rfl | rfl | rfl | rfl <;> intro e <;> cases e
           have HR5 := qh hR5
           have HX34 := qh hx34
           have HX4 := qh hx4
           have HL4 := qh hl4
           clear hpc hW5 hws5 hst4 hst5 hm5 hb5 hw5 hb4 hR4 hR5 hx4 hl4 hx34 HPC
           go_upto_region 21 with (first
            | ((with_reducible show wpList _ _ _ (⟨none, Op.store _ _ _, _, _, _, _⟩ :: _) _ _); refine wpList_store_mid rfl 41 _ _ rfl mb 0 #[.int .i64 r2.n, .slice ya yn yc, .slice yb ym yd, .bool r2.armed, .bool r2.down, .int .i64 r2.after, .int .u32 (S2.L.gen : Int), .slice ye yo yf, .bool S2.L.cl, .slice yg yp yh, .int .u64 (S2.num : Int), .bool S2.cl] (by rfl) (by rfl) HTH.out (by kernel_rfl) (by simp [Value.oneCell']) ?_)
            | fail)
           rw [show w4.setCells mb 0 [.int .i64 r2.n, .slice ya yn yc, .slice yb ym yd, .bool r2.armed, .bool r2.down, .int .i64 r2.after, .int .u32 (S2.L.gen : Int), .slice ye yo yf, .bool S2.L.cl, .slice yg yp yh, .int .u64 (S2.num : Int), .bool S2.cl] = w5 from HWE.out.symm]
           clear HWE HTH
           go_wp2_with fail
           refine HPC5.out.mono ?_
           clear HPC5
           rintro e w6 ⟨rfl, hL6, hK6⟩
           have hsz5 := HX34.out.size
           have hW6 : WrsO w6 wA.heap.size (.slice xa ws.length xc) us ws := HW5.out.mod hK6 (fun k hk hn => hn (.inr ⟨(HW5.out.row.lt k hk).1, by have := (HW3.out.row.lt k hk).2; have := HX4.out.size; omega⟩)) (fun u hu k hk hn => by
            obtain ⟨l9, ho9⟩ := HW3.out.mem hu
            exact hn (.inr ⟨(ho9.lt k hk).1, by have := (ho9.lt k hk).2; have := HX4.out.size; omega⟩))
           have hsub : ∀ k, New XA w3 w4 k -> New XA wA w4 k := New.of_sub HX3.out.size
           have hR6 := HR5.out.keeps (hK6.less hsub)
           have hb6 := blk_mod HB5.out hK6 (fun hn => hn (.inl HST.out.xm))
           have HW6 := qh hW6
           have HR6 := qh hR6
           have HL6 := qh hL6
           have HB6 := qh hb6
           have hwli : (ws.length : Int) <= 70 := by omega
           clear hW6 hR6 hL6 hb6 hK6 HR5 HB5 HM5 HW5 hsub
           simp only
           go_wp2_with fail
           go_loopw [21] (fun iv wz => ∃ i : Nat, i <= ws.length /\ iv = .int .i64 (i : Int) /\ Hid (Mod (VF us i) w6 wz)) (fun iv _ => ws.length - (intOf iv).toNat)
           case atStart => exact ⟨0, Nat.zero_le _, rfl, Mod.refl _ _⟩
           case round =>
            obtain ⟨i, hi, rfl, hM⟩ := hrel
            by_cases hlt9 : i < ws.length
            ·have hlt9i : (i : Int) < (ws.length : Int) := by omega
             have hrow := ownsRow_mod HW6.out.row hM.out (HW6.out.vf_row i)
             obtain ⟨a9, cap9, hv9, g1, g2, g3, g4, g5, g6⟩ := ReadsN.of_own hrow (wrcs_one ws us HW6.out.ones)
             obtain ⟨rfl, _, rfl⟩ := Value.slice.inj hv9
             obtain ⟨xb, xo, rfl, hc⟩ : ∃ b off, xa = some ⟨b, off, none⟩ /\ ∀ j u, (wrcs ws us)[j]? = some u -> wr.cell? ⟨b, off + j, none⟩ = some u := by
              rcases g6 with g6 | g6
              ·omega
              ·exact g6
             have e1 := wrcs_get ws us i hlt9 HW6.out.len 1 (by omega)
             obtain ⟨u, hu1, hu2⟩ := HW6.out.each i hlt9
             have hu3 := ownsRow_mod hu2 hM.out (HW6.out.vf_val hu1)
             have hue : us[i]'(by rw [HW6.out.len]; exact hlt9) = u := by
              have := hu1
              rw [List.getElem?_eq_getElem (by rw [HW6.out.len]; exact hlt9)] at this
              exact Option.some.inj this
             rw [hue] at e1
             have d1 := hc _ _ (e1.trans rfl)
             rw [<- Nat.add_assoc] at d1
             have HU1 := qh hu1
             have huw : ∀ k, u.ownBlock = some k -> ¬ xb = k := fun k hk e => by
              subst e
              exact HW6.out.apart (List.mem_of_getElem? hu1) hk rfl
             have HUB := qh huw
             generalize ws[i] = x9 at *
             obtain ⟨ua, uc, rfl⟩ := (Bs.of_own hu3).shape
             have hvl := (Bs.of_own hu3).length_le
             generalize x9.val = BV at *
             have HU3 := qh hu3
             clear hrow hv9 g1 g2 g3 g4 g5 g6 hc e1 hu1 hu2 hu3 hue huw
             go_wp2_with fail
             go_loopw [22] (fun jv wr2 => ∃ (j : Nat) (B : List UInt8), j <= BV.length /\ B.length = BV.length /\ jv = .int .i64 (j : Int) /\ Hid (wr2.ownsRow wA.heap.size 5 1 (.slice ua BV.length uc) BV.length (B.map byteVal)) /\ Hid (Mod (fun k => (Value.slice ua BV.length uc).ownBlock = some k) wr wr2)) (fun jv _ => BV.length - (intOf jv).toNat)
             case atStart => exact ⟨0, BV, Nat.zero_le _, rfl, rfl, HU3, Mod.refl _ _⟩
             case round =>
              obtain ⟨j, B, hj, hB, rfl, hU, hM2⟩ := hrel
              have d1' := hM2.out.cell d1 (fun e => HUB.out xb e rfl)
              by_cases hlt8 : j < BV.length
              ·have hlt8i : (j : Int) < (BV.length : Int) := by omega
               obtain ⟨g, cap8, hgv, -, -, -, -, hgc⟩ := own_open hU.out (by omega)
               obtain ⟨rfl, _, rfl⟩ := Value.slice.inj hgv
               have hcell := hU.out.cellAt j (by rw [Nat.mul_one]; exact hlt8)
               rw [List.getElem?_map, List.getElem?_eq_getElem (by omega)] at hcell
               simp only [Option.map_some] at hcell
               have hfro := hU.out.frozenAt j
               have hst := (hU.out.stored j (byteVal 187)).1
               rw [<- List.map_set] at hst
               have HSU := qh hst
               have hms := Mod.setCell (F := fun k => (Value.slice (some ⟨g, 0, none⟩) BV.length uc).ownBlock = some k) (wr) ⟨g, j, none⟩ (byteVal 187) rfl
               have HMS := qh (Mod.trans hM2.out hms (fun _ _ h => h))
               clear hst hms hgc hgv
               have hbv : byteVal 187 = .int .u8 187 := rfl
               rw [hbv] at HSU HMS
               clear hbv
               obtain ⟨z, hz⟩ : ∃ z : Int, byteVal (B[j]'(by omega)) = .int .u8 z := ⟨_, rfl⟩
               rw [hz] at hcell
               clear hz
               go_wp2
               exact ⟨⟨j + 1, B.set j 187, by omega, by rw [List.length_set]; exact hB, by go_num, HSU, HMS⟩, by simp [intOf]; omega⟩
              ·obtain rfl : j = BV.length := by omega
               have hge8 : ¬ ((BV.length : Nat) : Int) < (BV.length : Int) := by omega
               have HM6 := qh (show Mod (VF us (i + 1)) w6 wr from Mod.trans (hM.out.mono (VF.mono (Nat.le_succ i))) hM2.out (fun k _ e => ⟨i, _, Nat.lt_succ_self i, HU1.out, e⟩))
               clear d1
               go_wp2
               exact ⟨⟨i + 1, by omega, by go_num, HM6⟩, by simp [intOf]; omega⟩
            ·obtain rfl : i = ws.length := by omega
             have hge9 : ¬ ((ws.length : Nat) : Int) < (ws.length : Int) := by omega
             have hnn : ((nn : Int) != (nn : Int)) = false := by simp
             have hcc : (cc != cc) = false := by simp
             have hvf := fun k (hk : VF us ws.length k) => HW6.out.vf_lt ws.length k hk
             have hvs := HW3.out.vf_lt ws.length
             have HQ9 : Hid (QSt w1 wr p mb (New XA wA w4) q S2 r2 (.slice ya yn yc) (.slice yb ym yd) (.slice ye yo yf) (.slice yg yp yh) n (2 * (k + 1 + 1)) (2100 * (k + 1 + 1))) := by
              have hA : ∀ k, XA k -> k < wA.heap.size := fun k hk => HST.out.st.lt k hk
              have h1 : ∀ k, VF us ws.length k -> New XA wA w4 k := fun k hk => .inr ⟨(hvs k hk).1, by have := (hvs k hk).2; have := HX4.out.size; omega⟩
              have h2 : ∀ k, VF us ws.length k -> ¬ New XA w3 w4 k := fun k hk hn => by
               have := hvs k hk
               rcases hn with hn | hn
               ·have := hA k hn; omega
               ·omega
              refine ⟨HL6.out.modX hM.out h1 (fun k hk => Nat.le_trans HST.out.st.toExt.size (hvs k hk).1), (HR6.out.keeps (hM.out.mono (fun k hk hn => h2 k hk hn))).more (New.of_sub HX3.out.size), blk_mod HB6.out hM.out (fun hk => by have := hvs mb hk; have := hA mb HST.out.xm; omega), .inl HST.out.xm, HST.out.hm, HI2.out.le (by omega), Nat.le_trans HL4.out (by have := HST.out.len; omega)⟩
             clear hM HL6 HR6 HB6 HW6 HI2 HL4 hvf hvs
             go_wp2_with fail
             go_meet
             exact ⟨_, q, S2, r2, _, _, _, _, rfl, HQ9⟩
         ·have k0b : (kind == 0) = false := by rw [beq_eq_false_iff_ne]; exact k0
          clear k0
          by_cases k1 : kind = 1
          ·as_aux_lemma =>
            subst k1
            obtain ⟨⟨za, zn, zc, hsl1⟩, ⟨zb, zm, zd, hsl2⟩, ⟨ze, zo, zf, hsl3⟩, ⟨zg, zp, zh, hsl4⟩⟩ := (HST.out.ref).slices
            subst hsl1
            subst hsl2
            subst hsl3
            subst hsl4
            have hbox := HST.out.box
            unfold bxS at hbox
            have HBX := qh hbox
            clear hbox
            obtain ⟨ib, hib, hbz, hb1, hb2⟩ := info_bool6_parts
            have hown0 := own_empty wA wA.heap.size 4 (Nat.le_refl _)
            have hxe := Ext.of_alloc wA (.cells #[] 4)
            have hke := HKR.out.ext hxe
            have hkl := HKR.out.length_le
            rw [List.length_map] at hkl
            have HO0 := qh hown0
            have HKE := qh hke
            have HXE := qh hxe
            have e3 := hxe.cell c3
            clear hown0 hxe hke
            go_wp2_with (first
             | (at_builtin; refine wpl_append _ rfl _ _ 45 rfl wA.heap.size 4 ib (.bool false) 1 Tryz.underlying45 hib hbz hb1 hb2 rfl _ 0 [] (by rfl) HO0.out _ (keep.map Value.bool) (by rfl) HKE.out (by simp [maxLen]; omega) (by simp; omega) HXE.out.size ?_; intro v9 wB hown9 hgrow; have HOG := qh hown9; have HGG := qh hgrow; clear hown9 hgrow)
             | fail)
            have hgrow := HGG.out
            have hown9 := HOG.out
            have hxB := HXE.out.grown hgrow (fun q hq => (HO0.out.lt q hq).1)
            rw [List.nil_append, List.length_map, Nat.zero_add] at hown9
            have hrd9 := Reads.of_own hown9 (by intro u hu; obtain ⟨b, _, rfl⟩ := List.mem_map.1 hu; rfl)
            have hrs := held_restart HST.out.st.held hxB v9 keep hrd9 (.inr fun k hk => .inr (hown9.lt k hk))
            have HRS := qh hrs
            have HXB := qh hxB
            clear e3 hown9 hgrow hrd9 hrs hxB HOG HGG HO0 HKE HXE hib hbz hb1 hb2
            refine HRS.out.mono ?_
            clear HRS
            rintro e w5 ⟨rfl, hst5⟩
            have HS5 := qh hst5
            have hb5 := blk_mod ((Below.block (B := wA.heap.size) HXB.out mb (blk_lt HBX.out)).trans HBX.out) hst5.2 (fun hn => hn HST.out.xm)
            have HB5 := qh hb5
            have d3 := Keeps.cell hst5.2 (HXB.out.cell c3) HCX.out
            have hA5 : RefAt w5 XA r (.slice za zn zc) (.slice zb zm zd) := (HST.out.ref.log.at_.ext HXB.out).keeps hst5.2
            have hk5 := HK0.out.ext (HX1.out.trans hst5.1.ext)
            have hrr := ref_restart r XA (.slice za zn zc) (.slice zb zm zd) (.slice ka keep.length kc) keep w5 hA5 hk5 (by have := HST.out.len; unfold R4.len at this; omega)
            obtain ⟨T, hop, hinvT, hclT⟩ := HST.out.inv.open_ keep hst5.1.okd (by omega)
            have hbd := S6.open_bounds hst5.1.okd
            have hrel7 := HST.out.ref.log.rel.restart keep
            have hlen7 := Nat.le_trans (restart_len r keep) HST.out.len
            have hro := fun (v : World) (X' : Nat -> Prop) (s1 s2 : Value) (hv : RefAt v X' (R4.restart r keep) s1 s2) => refOpen6 (R4.restart r keep) X' s1 s2 (D.restart S.L.d keep) hrel7 hst5.1.okd v hv (by omega) hbd.1 hbd.2
            have hpo := fun (v : World) (X' : Nat -> Prop) (hv : Held w1 v X' p (D.restart S.L.d keep)) => open6_any hv (Nat.zero_le _)
            rw [hop] at hro hpo
            generalize R4.restart r keep = r5 at *
            unfold RefOut1 at hrr
            unfold rv at hrr hro
            try simp only at hrr hro
            have HRR := qh hrr
            have HRO := qh hro
            have HPO := qh hpo
            have HIT := qh hinvT
            have HL7 := qh hlen7
            obtain ⟨f0, f1, f2, f3, f4, f5, f6, f7, f8, f9, f10, f11⟩ := box12 hb5
            clear hst5 hb5 hA5 hk5 hrr hop hinvT hbd hrel7 hlen7 hro hpo
            dsimp only
            go_wp2_with fail
            refine HRR.out.mono ?_
            clear HRR
            rintro e w6 ⟨sv6, wv6, rfl, hA6, hx6⟩
            have hro := HRO.out w6 _ _ _ hA6
            have HRO6 := qh hro
            have HX6 := qh hx6
            clear hro HRO hA6 hx6 d3
            clear f0 f1 f2 f3 f4 f5 f6 f7 f8 f9 f10 f11
            dsimp only
            go_wp2_with fail
            refine HRO6.out.mono ?_
            clear HRO6
            rintro e w7 ⟨g, pv7, num, rfl, -, -, hx7, hdet⟩
            obtain ⟨r7, sv7, wv7, lv7, rfl, rfl, -, hR7, hl7⟩ := hdet T rfl
            clear hdet
            obtain ⟨⟨ya, yn, yc, hsl1⟩, ⟨yb, ym, yd, hsl2⟩, ⟨ye, yo, yf, hsl3⟩, ⟨yg, yp, yh, hsl4⟩⟩ := (hR7).slices
            subst hsl1
            subst hsl2
            subst hsl3
            subst hsl4
            unfold s6v gL
            dsimp only
            have hx57 := HX6.out.trans hx7
            have hb7 := (Below.block (B := w5.heap.size) hx57 mb (blk_lt HB5.out)).trans HB5.out
            have hsub : ∀ k, New (New XA w5 w6) w6 w7 k -> New XA w5 w7 k := new_new HX6.out hx7
            have HR7 := qh (hR7.more hsub)
            have HH7 := qh (HS5.out.1.all hx57)
            have HB7 := qh hb7
            have HTH := qh (there_blk (cs := [.int .i64 r.n, .slice za zn zc, .slice zb zm zd, .bool r.armed, .bool r.down, .int .i64 r.after, .int .u32 (S.L.gen : Int), .slice ze zo zf, .bool S.L.cl, .slice zg zp zh, .int .u64 (S.num : Int), .bool S.cl]) hb7 0 12 (by simp))
            have hm8 := mod_setCells (fun z => z = mb) w7 mb 0 [.int .i64 r7.n, .slice ya yn yc, .slice yb ym yd, .bool r7.armed, .bool r7.down, .int .i64 r7.after, .int .u32 (T.L.gen : Int), .slice ye yo yf, .bool T.L.cl, .slice yg yp yh, .int .u64 (T.num : Int), .bool false] rfl
            have hb8 : (w7.setCells mb 0 [.int .i64 r7.n, .slice ya yn yc, .slice yb ym yd, .bool r7.armed, .bool r7.down, .int .i64 r7.after, .int .u32 (T.L.gen : Int), .slice ye yo yf, .bool T.L.cl, .slice yg yp yh, .int .u64 (T.num : Int), .bool false]).heap[mb]? = some (.cells #[.int .i64 r7.n, .slice ya yn yc, .slice yb ym yd, .bool r7.armed, .bool r7.down, .int .i64 r7.after, .int .u32 (T.L.gen : Int), .slice ye yo yf, .bool T.L.cl, .slice yg yp yh, .int .u64 (T.num : Int), .bool false] 41 (0, 0)) := by rw [blk_setCells mb 41 [.int .i64 r7.n, .slice ya yn yc, .slice yb ym yd, .bool r7.armed, .bool r7.down, .int .i64 r7.after, .int .u32 (T.L.gen : Int), .slice ye yo yf, .bool T.L.cl, .slice yg yp yh, .int .u64 (T.num : Int), .bool false] 0 w7 [.int .i64 r.n, .slice za zn zc, .slice zb zm zd, .bool r.armed, .bool r.down, .int .i64 r.after, .int .u32 (S.L.gen : Int), .slice ze zo zf, .bool S.L.cl, .slice zg zp zh, .int .u64 (S.num : Int), .bool S.cl] hb7 (by simp)]; simp
            obtain ⟨w8, hw8⟩ : ∃ w8, w8 = w7.setCells mb 0 [.int .i64 r7.n, .slice ya yn yc, .slice yb ym yd, .bool r7.armed, .bool r7.down, .int .i64 r7.after, .int .u32 (T.L.gen : Int), .slice ye yo yf, .bool T.L.cl, .slice yg yp yh, .int .u64 (T.num : Int), .bool false] := ⟨_, rfl⟩
            rw [<- hw8] at hm8 hb8
            have hh8 := HH7.out.modX hm8 (fun k e => by subst e; exact .inl HST.out.xm) (fun k e => by subst e; exact HST.out.hm)
            have hpo := HPO.out w8 _ hh8
            have HPO8 := qh hpo
            have HM8 := qh hm8
            have HB8 := qh hb8
            have HW8 := qh hw8
            have HX57 := qh hx57
            have hl7b : R4.len r7 <= 2100 * (k + 1 + 1) := by have := HL7.out; omega
            clear hm8 hb8 hw8 hh8 hpo HPO hb7 hR7 hx7 hx57 hl7 hsub
            go_upto_region 34 with (first
             | ((with_reducible show wpList _ _ _ (⟨none, Op.store _ _ _, _, _, _, _⟩ :: _) _ _); refine wpList_store_mid rfl 41 _ _ rfl mb 0 #[.int .i64 r7.n, .slice ya yn yc, .slice yb ym yd, .bool r7.armed, .bool r7.down, .int .i64 r7.after, .int .u32 (T.L.gen : Int), .slice ye yo yf, .bool T.L.cl, .slice yg yp yh, .int .u64 (T.num : Int), .bool false] (by rfl) (by rfl) HTH.out (by kernel_rfl) (by simp [Value.oneCell']) ?_)
             | fail)
            rw [show w7.setCells mb 0 [.int .i64 r7.n, .slice ya yn yc, .slice yb ym yd, .bool r7.armed, .bool r7.down, .int .i64 r7.after, .int .u32 (T.L.gen : Int), .slice ye yo yf, .bool T.L.cl, .slice yg yp yh, .int .u64 (T.num : Int), .bool false] = w8 from HW8.out.symm]
            clear HW8 HTH
            go_wp2_with fail
            refine HPO8.out.mono ?_
            clear HPO8
            rintro e w9 (⟨T2, q2, hT2, rfl, -, hL9, hK9⟩ | ⟨hT2, -⟩)
            ·obtain rfl := Option.some.inj hT2
             have HQ9 : Hid (QSt w1 w9 p mb (New XA w5 w7) q2 T r7 (.slice ya yn yc) (.slice yb ym yd) (.slice ye yo yf) (.slice yg yp yh) n (2 * (k + 1 + 1)) (2100 * (k + 1 + 1))) := by
              refine ⟨hL9, (HR7.out.store12 HB7.out ?_ HM8.out).keeps hK9, ?_, .inl HST.out.xm, HST.out.hm, HIT.out.le (by omega), hl7b⟩
              ·refine bx_str HB7.out ?_
               intro a ha s
               simp only [List.mem_cons, List.not_mem_nil, or_false] at ha
               rcases ha with rfl | rfl | rfl | rfl | rfl | rfl | rfl | rfl <;> intro e <;> cases e
              ·have h9 := blk_mod HB8.out hK9 (fun hn => hn (.inl HST.out.xm))
               rw [<- hclT] at h9
               exact h9
             clear hL9 hK9 HR7 HH7 HB7 HM8 HB8 HX57 HIT HL7 hl7b hclT
             dsimp only
             go_wp2_with fail
             go_meet
             exact ⟨_, q2, _, r7, _, _, _, _, rfl, HQ9⟩
            ·cases hT2
          ·have k1b : (kind == 1) = false := by rw [beq_eq_false_iff_ne]; exact k1
           clear k1
           by_cases k2 : kind = 2
           ·as_aux_lemma =>
             subst k2
             obtain ⟨⟨za, zn, zc, hsl1⟩, ⟨zb, zm, zd, hsl2⟩, ⟨ze, zo, zf, hsl3⟩, ⟨zg, zp, zh, hsl4⟩⟩ := (HST.out.ref).slices
             subst hsl1
             subst hsl2
             subst hsl3
             subst hsl4
             have hbox := HST.out.box
             unfold bxS at hbox
             obtain ⟨f0, f1, f2, f3, f4, f5, f6, f7, f8, f9, f10, f11⟩ := box12 hbox
             have hrf := HST.out.ref.log.rel.fuse xn
             have hlf := fuse_len r xn
             have hrl := HST.out.ref.log.at_
             have hc := ref_fuse r XA (.slice za zn zc) (.slice zb zm zd) xn wA hrl
             unfold RefOut at hc
             generalize R4.fuse r xn = RF at *
             obtain ⟨r2, c2⟩ := RF
             unfold rv at hc
             simp only at hc hrf hlf
             have HC := qh hc
             have HRF := qh hrf
             have HBX := qh hbox
             clear hc hrf hrl hbox
             go_wp2_with fail
             refine HC.out.mono ?_
             clear HC f0 f1 f2 f3 f4 f5 f6 f7 f8 f9 f10 f11
             rintro e w3 ⟨sv2, wv2, rfl, hA3, hx3⟩
             obtain ⟨ya, yn, yc, hs1⟩ := hA3.safe.any
             obtain ⟨yb, ym, yd, hs2⟩ := hA3.wait.any
             subst hs1
             subst hs2
             dsimp only
             have HQ3 := qh (HST.out.all hx3)
             have HA3 := qh hA3
             have hb3 := (Below.block (B := wA.heap.size) hx3 mb (blk_lt HBX.out)).trans HBX.out
             have HB3 := qh hb3
             have HTH := qh (there_blk (cs := [.int .i64 r.n, .slice za zn zc, .slice zb zm zd, .bool r.armed, .bool r.down, .int .i64 r.after, .int .u32 (S.L.gen : Int), .slice ze zo zf, .bool S.L.cl, .slice zg zp zh, .int .u64 (S.num : Int), .bool S.cl]) hb3 0 6 (by simp))
             have hm4 := mod_setCells (fun z => z = mb) w3 mb 0 [.int .i64 r2.n, .slice ya yn yc, .slice yb ym yd, .bool r2.armed, .bool r2.down, .int .i64 r2.after] rfl
             have hb4 : (w3.setCells mb 0 [.int .i64 r2.n, .slice ya yn yc, .slice yb ym yd, .bool r2.armed, .bool r2.down, .int .i64 r2.after]).heap[mb]? = some (.cells #[.int .i64 r2.n, .slice ya yn yc, .slice yb ym yd, .bool r2.armed, .bool r2.down, .int .i64 r2.after, .int .u32 (S.L.gen : Int), .slice ze zo zf, .bool S.L.cl, .slice zg zp zh, .int .u64 (S.num : Int), .bool S.cl] 41 (0, 0)) := by rw [blk_setCells mb 41 [.int .i64 r2.n, .slice ya yn yc, .slice yb ym yd, .bool r2.armed, .bool r2.down, .int .i64 r2.after] 0 w3 [.int .i64 r.n, .slice za zn zc, .slice zb zm zd, .bool r.armed, .bool r.down, .int .i64 r.after, .int .u32 (S.L.gen : Int), .slice ze zo zf, .bool S.L.cl, .slice zg zp zh, .int .u64 (S.num : Int), .bool S.cl] hb3 (by simp)]; simp
             have d1 := hx3.cell c1
             obtain ⟨w4, hw4⟩ : ∃ w4, w4 = w3.setCells mb 0 [.int .i64 r2.n, .slice ya yn yc, .slice yb ym yd, .bool r2.armed, .bool r2.down, .int .i64 r2.after] := ⟨_, rfl⟩
             rw [<- hw4] at hm4 hb4
             have d1' := Mod.cell hm4 d1 (fun e => by have := HMA.out; simp only at e; omega)
             have HM4 := qh hm4
             have HB4 := qh hb4
             have HW4 := qh hw4
             have HL4 := qh (HQ3.out.st.modX hm4 (fun k e => by subst e; exact HQ3.out.xm) (fun k e => by subst e; exact HQ3.out.hm))
             clear hm4 hb4 hw4 d1 hb3 hA3 hx3
             generalize New XA wA w3 = XB at *
             go_upto_region 41 with (first
              | ((with_reducible show wpList _ _ _ (⟨none, Op.store _ _ _, _, _, _, _⟩ :: _) _ _); refine wpList_store_mid rfl 33 _ _ rfl mb 0 #[.int .i64 r2.n, .slice ya yn yc, .slice yb ym yd, .bool r2.armed, .bool r2.down, .int .i64 r2.after] (by rfl) (by rfl) HTH.out (by kernel_rfl) (by simp [Value.oneCell']) ?_)
              | fail)
             rw [show w3.setCells mb 0 [.int .i64 r2.n, .slice ya yn yc, .slice yb ym yd, .bool r2.armed, .bool r2.down, .int .i64 r2.after] = w4 from HW4.out.symm]
             clear HW4 HTH
             have hfs := stod_fuse HL4.out xn HW2.out.2
             rw [HRF.out.2] at hfs
             have HFS := qh hfs
             clear hfs
             go_wp2_with fail
             refine HFS.out.mono ?_
             clear HFS
             rintro e w5 ⟨rfl, hL5, hK5⟩
             have hcc : (c2 != c2) = false := by simp
             have HQ5 : Hid (QSt w1 w5 p mb XB q (S6.over S (D.fuse S.L.d xn)) r2 (.slice ya yn yc) (.slice yb ym yd) (.slice ze zo zf) (.slice zg zp zh) n (2 * (k + 1 + 1)) (2100 * (k + 1 + 1))) := by
              have hQ := HQ3.out
              have hr3 : RefS w3 XB (S6.over S (D.fuse S.L.d xn)) r2 (.slice ya yn yc) (.slice yb ym yd) (.slice ze zo zf) (.slice zg zp zh) := ⟨⟨HA3.out, HRF.out.1, hQ.ref.log.row, hQ.ref.log.rowX⟩, hQ.ref.prs, hQ.ref.pX, hQ.ref.pL⟩
              refine ⟨hL5, (hr3.store12 HB3.out hQ.str HM4.out).keeps hK5, ?_, hQ.xm, hQ.hm, (HST.out.inv.fuse HST.out.st.okd xn).le (by omega), Nat.le_trans hlf (Nat.le_trans HST.out.len (by omega))⟩
              exact blk_mod HB4.out hK5 (fun hn => hn hQ.xm)
             clear hL5 hK5 HQ3 HA3 HB3 HM4 HB4 HL4 d1' hlf
             go_wp2_with fail
             go_meet
             exact ⟨XB, q, _, r2, _, _, _, _, rfl, HQ5⟩
           ·have k2b : (kind == 2) = false := by rw [beq_eq_false_iff_ne]; exact k2
            clear k2
            go_wp2_with fail
            go_meet
            exact ⟨_, q, S, r, _, _, _, _, rfl, HST.out.grow (by omega) (by omega)⟩
        case rest =>
         as_aux_lemma =>
          clear HST c0 c1 c2 c3 HCX HKR HUR HKX HXA HX0 HW2
          obtain ⟨X2, q2, S2, r2, sv2, wv2, lv2, pv2, rfl, hst2⟩ := hcut
          obtain ⟨⟨za, zn, zc, hsl1⟩, ⟨zb, zm, zd, hsl2⟩, ⟨ze, zo, zf, hsl3⟩, ⟨zg, zp, zh, hsl4⟩⟩ := (hst2.out.ref).slices
          subst hsl1
          subst hsl2
          subst hsl3
          subst hsl4
          have hbox := hst2.out.box
          unfold bxS at hbox
          have HCS := qh (fun v (hv : Ext wc v) => box12 ((Below.block (B := wc.heap.size) hv mb (blk_lt hbox)).trans hbox))
          obtain ⟨f0, f1, f2, f3, f4, f5, f6, f7, f8, f9, f10, f11⟩ := box12 hbox
          obtain ⟨hsr, hpk, hnm, hln⟩ := hst2.out.st.facts
          have HPK := qh hpk
          have HLN2 := qh hln
          have ht6 := fun U (hU : Ext wc U) => tells6_any (hst2.out.st.after hU) (gL r2 (.slice za zn zc) (.slice zb zm zd) S2.L.gen (.slice ze zo zf) S2.L.cl) (.slice zg zp zh) S2.cl (hst2.out.ref.prs.ext hU)
          have ht4 := fun U (hU : Ext wc U) => tells4 (hst2.out.st.after hU).held (hst2.out.ref.log.at_.ext hU) hst2.out.ref.log.rel
          have hrg := fun U (hU : Ext wc U) => stod_range (hst2.out.st.after hU) f t
          have hrr := fun U (hU : Ext wc U) => refRange6 U (gL r2 (.slice za zn zc) (.slice zb zm zd) S2.L.gen (.slice ze zo zf) S2.L.cl) (.slice zg zp zh) S2.num S2.cl S2.l f t (hst2.out.ref.prs.ext hU) (by omega)
          have hrl : (S6.range S2.l f t).length <= 900000 := Nat.le_trans (List.length_filter_le _ _) (by omega)
          have hrv : ∀ x ∈ S6.range S2.l f t, x.val.length <= 1000000 := fun x hx => by have := (hpk x (S6.range_mem hx).1).val; omega
          unfold s6v gL at ht6 hrr
          unfold rv at ht4
          unfold strV at hrg hrr
          simp only at ht6 hrr
          have HT6 := qh ht6
          have HT4 := qh ht4
          have HRG := qh hrg
          have HRR := qh hrr
          have HRL := qh hrl
          have HRV := qh hrv
          generalize S6.range S2.l f t = RG at *
          have hx0 := Ext.of_drew wc
          clear ht6 ht4 hrg hrr hsr hpk hnm hln hrl hrv hbox
          go_wp2_with fail
          go_region_held3 (fun v => v.cell? ⟨mb, 0, none⟩ = some (.int .i64 r2.n) /\ v.cell? ⟨mb, 1, none⟩ = some (.slice za zn zc) /\ v.cell? ⟨mb, 2, none⟩ = some (.slice zb zm zd) /\ v.cell? ⟨mb, 3, none⟩ = some (.bool r2.armed) /\ v.cell? ⟨mb, 4, none⟩ = some (.bool r2.down) /\ v.cell? ⟨mb, 5, none⟩ = some (.int .i64 r2.after) /\ v.cell? ⟨mb, 6, none⟩ = some (.int .u32 (S2.L.gen : Int)) /\ v.cell? ⟨mb, 7, none⟩ = some (.slice ze zo zf) /\ v.cell? ⟨mb, 8, none⟩ = some (.bool S2.L.cl) /\ v.cell? ⟨mb, 9, none⟩ = some (.slice zg zp zh) /\ v.cell? ⟨mb, 10, none⟩ = some (.int .u64 (S2.num : Int)) /\ v.cell? ⟨mb, 11, none⟩ = some (.bool S2.cl)) (first | exact HCS.out _ hx0 | exact HCS.out _ hx1 | exact HCS.out _ hx2 | exact HCS.out _ hx3 | exact HCS.out _ hx4 | exact HCS.out _ hx5 | exact HCS.out _ hx6) (first
           | (go_at_call 16; refine (HT6.out _ hx0).mono ?_; rintro e wB ⟨rfl, hxa⟩; have hx1 := hx0.trans hxa)
           | (go_at_call 13; refine (HT4.out _ hx1).mono ?_; rintro e wC ⟨rfl, hxb⟩; have hx2 := hx1.trans hxb)
           | (go_at_call 19; refine (HRG.out _ hx2).mono ?_; rintro e wD ⟨vD, usD, rfl, hPD, hxc⟩; obtain ⟨aD, cD, rfl⟩ := own_any hPD.row; have hx3 := hx2.trans hxc)
           | (go_at_call 18; refine (pairs6_ext hPD hxc HRL.out HRV.out).mono ?_; rintro e wE ⟨vE, rfl, hownE, hxd⟩; obtain ⟨aE, cE, rfl⟩ := own_any hownE; have hx4 := hx2.trans hxd)
           | (go_at_call 20; refine (HRR.out _ hx4).mono ?_; rintro e wF ⟨vF, rfl, hownF, hxe⟩; obtain ⟨aF, cF, rfl⟩ := own_any hownF; have hx5 := hx4.trans hxe)
           | (go_at_call 17; refine (same6_any _ _ _ _ _ (RPs.of_own (hxe.keptOwn hownE)) (RPs.of_own hownF)).mono ?_; rintro e wG ⟨rG, rfl, hrG, hxf⟩; obtain rfl : rG = true := hrG.2 rfl; have hx6 := hx5.trans hxf))
          have HQ9 := qh (hst2.out.after hx6)
          clear hx0 hxa hx1 hxb hx2 hPD hxc hx3 hownE hxd hx4 hownF hxe hx5 hrG hxf hx6 hst2 HT6 HT4 HRG HRR HCS HPK
          clear f0 f1 f2 f3 f4 f5 f6 f7 f8 f9 f10 f11
          go_wp2_with fail
          exact ⟨⟨k + 1, by omega, by go_num, X2, q2, S2, r2, _, _, _, _, rfl, HQ9⟩, by simp [intOf]; omega⟩
       ·have hlti : decide (k < l.length) = false := decide_eq_false hlt
        have hge : ¬ (k : Int) < (l.length : Int) := by omega
        clear hlt
        go_wp2
        go_ret
        exact ⟨rfl, hXW.out⟩
     ·cases hS
end Go.Proofs.YtnjfioikpajhlaaGreat
