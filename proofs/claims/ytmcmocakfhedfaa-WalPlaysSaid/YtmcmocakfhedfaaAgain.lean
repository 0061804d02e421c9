/- jetwaylaw05.again: the disk is restarted, and the log opened anew, on both sides. (Printed by tools/mkagain.py.) -/
import Derived.Test.YtmcmocakfhedfaaTellsL
import Derived.Test.YtmcmocakfhedfaaBegun
namespace Go.Proofs.Ytmcmocakfhedfaa
open Go.RowKit

def AgainOut (w0 w w' : World) (X : Nat → Prop) (p : Nat) (x : W5.Lg × Int) (B : Nat) (e : Ending) : Prop :=
  (x.2 = 0 ∧ ∃ X' q r' sv' wv' lv', e = .returned (.tuple #[.pointer (some ⟨q, 0, none⟩), lgv r' sv' wv' x.1.gen lv' x.1.cl, .bool true, .bool true]) ∧ (∀ k, X k → X' k) ∧ Logd w0 w' X' p q x.1 ∧ RefL w' X' x.1 r' sv' wv' lv' ∧ R4.len r' ≤ B ∧ Keeps X w w') ∨
  (x.2 ≠ 0 ∧ ∃ r' sv' wv' lv' g cl, e = .returned (.tuple #[.pointer none, lgv r' sv' wv' g lv' cl, .bool false, .bool true]) ∧ (∃ a n c, sv' = .slice a n c) ∧ (∃ a n c, wv' = .slice a n c) ∧ (∃ a n c, lv' = .slice a n c) ∧ Keeps X w w')

set_option maxRecDepth 100000 in
set_option maxHeartbeats 6400000 in
theorem again_any {w0 w : World} {X : Nat → Prop} {p : Nat} {d : D.Dsk} {r : Ref4} {sv wv : Value} (h : Held w0 w X p d) (hr : RefAt w X r sv wv) (hrel : Rel d r) (hlen : R4.len r ≤ 700000) (kv : Value) (ks : List Bool) (hks : Reads w kv (ks.map Value.bool)) (hkX : ks = [] ∨ ∀ k, kv.ownBlock = some k → X k) :
    Calls Try.prog 31 #[.pointer (some ⟨p, 0, none⟩), rv r sv wv, kv] w fun e w' => AgainOut w0 w w' X p (W5.open_ (D.restart d ks)) (R4.len r + 2048) e := by
  have hx1 : Ext w ((w.alloc (.cells #[.int .i64 r.n, sv, wv, .bool r.armed, .bool r.down, .int .i64 r.after] 55)).alloc (.cells #[.int .i64 0, .slice none 0 0, .slice none 0 0, .bool false, .bool false, .int .i64 0, .int .u32 0, .slice none 0 0, .bool false] 63)) := (Ext.of_alloc w _).alloc _
  have HH1 := Lib.hid (h.all hx1)
  have HR1 := Lib.hid (hr.all hx1)
  obtain ⟨hb4, hb7⟩ := two_boxes' w #[.int .i64 r.n, sv, wv, .bool r.armed, .bool r.down, .int .i64 r.after] #[.int .i64 0, .slice none 0 0, .slice none 0 0, .bool false, .bool false, .int .i64 0, .int .u32 0, .slice none 0 0, .bool false] 55 63
  have HREL := Lib.hid hrel
  have HKS := Lib.hid (hks.ext hx1)
  have HKX : Hid (ks = [] ∨ ∀ k, kv.ownBlock = some k → New X w ((w.alloc (.cells #[.int .i64 r.n, sv, wv, .bool r.armed, .bool r.down, .int .i64 r.after] 55)).alloc (.cells #[.int .i64 0, .slice none 0 0, .slice none 0 0, .bool false, .bool false, .int .i64 0, .int .u32 0, .slice none 0 0, .bool false] 63)) k) := hkX.imp (fun a => a) (fun a k hk => .inl (a k hk))
  have HXL := Lib.hid (show ∀ k, X k → k < w.heap.size from fun k hk => h.lt k hk)
  have HW0 := Lib.hid h.ext.size
  have hsz : ((w.alloc (.cells #[.int .i64 r.n, sv, wv, .bool r.armed, .bool r.down, .int .i64 r.after] 55)).alloc (.cells #[.int .i64 0, .slice none 0 0, .slice none 0 0, .bool false, .bool false, .int .i64 0, .int .u32 0, .slice none 0 0, .bool false] 63)).heap.size = w.heap.size + 2 := by rw [World.size_alloc, World.size_alloc]
  obtain ⟨sa, sn, sc, hsv⟩ := hr.safe.any
  obtain ⟨wa, wn, wc', hwv⟩ := hr.wait.any
  subst hsv
  subst hwv
  obtain ⟨ka, kc, hkv⟩ := hks.shape
  generalize (ks.map Value.bool).length = kn at hkv
  subst hkv
  have HRS := Lib.hid (fun (v : World) (X' : Nat → Prop) (hv : RefAt v X' r (.slice sa sn sc) (.slice wa wn wc')) (hk : Reads v (.slice ka kn kc) (ks.map Value.bool)) => ref_restart r X' (.slice sa sn sc) (.slice wa wn wc') (.slice ka kn kc) ks v hv hk (by have : R4.len r = r.safe.length + r.wait.length := rfl; omega))
  have HOP1 : Hid (∀ (v : World) (X' : Nat → Prop), Held w0 v X' p (D.restart d ks) → Calls Try.prog 19 #[.pointer (some ⟨p, 0, none⟩)] v fun e w' => Opened w0 v w' X' p (W5.open_ (D.restart d ks)) e) := fun v X' hv => open_any hv (by show 0 ≤ _; omega)
  have hrl := restart_len r ks
  have HOP2 : Hid (∀ (v : World) (X' : Nat → Prop) (s1 s2 : Value), D.Ok (D.restart d ks) → RefAt v X' (R4.restart r ks) s1 s2 → Calls Try.prog 54 #[rv (R4.restart r ks) s1 s2] v fun e w' => OpenOut v w' X' (W5.open_ (D.restart d ks)) (R4.len (R4.restart r ks) + 2048) e) := fun v X' s1 s2 hok hv => refOpen (R4.restart r ks) X' s1 s2 (D.restart d ks) (hrel.restart ks) hok v hv (by omega)
  generalize hB : R4.len r = B at *
  generalize W5.open_ (D.restart d ks) = x at *
  generalize R4.restart r ks = rr at *
  unfold rv at HRS HOP2 ⊢
  clear h hr hrel hks hkX
  go_enter Try.func31, Try.ntmps31
  go_upto_region 1 with (fail)
  have HX1 := Lib.hid hx1
  generalize hb7e : w.heap.size + 1 = b7 at *
  generalize ((w.alloc (.cells #[.int .i64 r.n, .slice sa sn sc, .slice wa wn wc', .bool r.armed, .bool r.down, .int .i64 r.after] 55)).alloc (.cells #[.int .i64 0, .slice none 0 0, .slice none 0 0, .bool false, .bool false, .int .i64 0, .int .u32 0, .slice none 0 0, .bool false] 63)) = wq at *
  generalize hX1 : New X w wq = X1 at *
  have HI4 := Lib.hid (show X1 w.heap.size by rw [← hX1]; exact .inr ⟨Nat.le_refl _, by omega⟩)
  have HI7 := Lib.hid (show X1 b7 by rw [← hX1]; exact .inr ⟨by omega, by omega⟩)
  have HXS := Lib.hid (show ∀ k, X k → X1 k by rw [← hX1]; exact fun k hk => .inl hk)
  have HB7W := Lib.hid (show w.heap.size < b7 by omega)
  have H4 := Lib.hid hb4
  have H7 := Lib.hid hb7
  clear hx1 hb4 hb7 hsz hX1 hb7e
  go_wp2_with fail
  refine (held_restart_X HH1.out _ ks HKS.out HKX.out).mono ?_
  rintro e wb ⟨rfl, hst⟩
  have HHB := Lib.hid hst.1
  have HRB := Lib.hid (HR1.out.keeps hst.2)
  have HKB := Lib.hid (Reads.mod_or HKS.out hst.2 (HKX.out.imp (fun a => by rw [a]; rfl) (fun a k hk hn => hn (a k hk))))
  have HB4 := Lib.hid (blk_mod H4.out hst.2 (fun hn => hn HI4.out))
  have HB7b := Lib.hid (blk_mod H7.out hst.2 (fun hn => hn HI7.out))
  have HKP := Lib.hid ((Keeps.of_ext (X := X) HX1.out).trans (hst.2.less HXS.out))
  clear hst HH1 HR1 HKS H4 H7 HX1
  obtain ⟨c0, c1, c2, c3, c4, c5, f0, f1, f2, f3, f4, f5⟩ := box_facts HB4.out
  clear f0 f1 f2 f3 f4 f5
  dsimp only
  go_wp2_with fail
  refine (HRS.out wb X1 HRB.out HKB.out).mono ?_
  clear HRS
  rintro e wc ⟨s1, s2, rfl, hra, hxc⟩
  unfold rv
  obtain ⟨pa, pn, pc, hsv⟩ := hra.safe.any
  obtain ⟨qa, qn, qc, hwv⟩ := hra.wait.any
  subst hsv
  subst hwv
  have HC2 := Lib.hid (HOP2.out wc _ _ _ HHB.out.okd hra)
  have HXC := Lib.hid hxc
  clear hra hxc HOP2 c0 c1 c2 c3 c4 c5
  go_wp2_with fail
  refine HC2.out.mono ?_
  clear HC2
  rintro e wd ⟨r2, s3, s4, s5, g2, cl2, rfl, ⟨xa, xn, xc, hs3⟩, ⟨ya, yn, yc, hs4⟩, ⟨za, zn, zc, hs5⟩, hxd, hol⟩
  unfold lgv
  subst hs3
  subst hs4
  subst hs5
  obtain ⟨L, cc⟩ := x
  simp only at hol
  have HXD := Lib.hid (HXC.out.trans hxd)
  have HX7 := Lib.hid (Ext.of_alloc wd (.cells #[.int .i64 0, .slice none 0 0, .slice none 0 0, .bool false, .bool false, .int .i64 0, .int .u32 0, .slice none 0 0, .bool false] 63))
  have HZ8 : Hid ((wd.alloc (.cells #[.int .i64 0, .slice none 0 0, .slice none 0 0, .bool false, .bool false, .int .i64 0, .int .u32 0, .slice none 0 0, .bool false] 63)).heap[wd.heap.size]? = some (.cells #[.int .i64 0, .slice none 0 0, .slice none 0 0, .bool false, .bool false, .int .i64 0, .int .u32 0, .slice none 0 0, .bool false] 63 (0, 0))) := heap_alloc_new wd _
  have HOL : Hid (cc = 0 → g2 = L.gen ∧ cl2 = L.cl ∧ RefL wd (New X1 wb wd) L r2 (.slice xa xn xc) (.slice ya yn yc) (.slice za zn zc) ∧ R4.len r2 ≤ B + 2048) := fun h => by
    obtain ⟨h1, h2, h3, h4⟩ := hol h
    exact ⟨h1, h2, h3.more (new_new HXC.out hxd), Nat.le_trans h4 (by omega)⟩
  clear hol hxd
  go_upto_region 3 with (first
  | ((with_reducible show wpList _ _ _ (⟨none, Op.store _ (Operand.tmp 10) _, _, _, _, _⟩ :: _) _ _); refine wpl_store_all _ rfl 63 _ _ rfl wd.heap.size 63 [_, _, _, _, _, _, _, _, _] HZ8.out rfl [.int .i64 r2.n, .slice xa xn xc, .slice ya yn yc, .bool r2.armed, .bool r2.down, .int .i64 r2.after, .int .u32 (g2 : Int), .slice za zn zc, .bool cl2] rfl rfl size_l5 (by simp [Value.oneCell']) ?_; intro we hbn hmn hszn; have HM8 := Lib.hid hmn; have HN8 := Lib.hid hbn; clear hbn hmn hszn)
    | fail)
  have HXE := Lib.hid (HM8.out.ext (HXD.out.trans HX7.out) (fun k e => by have := HXD.out.size; omega))
  have HN10 := Lib.hid (show wb.heap.size ≤ wd.heap.size ∧ wd.heap.size < we.heap.size from ⟨HXD.out.size, by have := HM8.out.size; rw [World.size_alloc] at this; omega⟩)
  have HOL2 : Hid (cc = 0 → g2 = L.gen ∧ cl2 = L.cl ∧ RefL we (New X1 wb we) L r2 (.slice xa xn xc) (.slice ya yn yc) (.slice za zn zc) ∧ R4.len r2 ≤ B + 2048) := fun h => by
    obtain ⟨h1, h2, h3, h4⟩ := HOL.out h
    exact ⟨h1, h2, (((h3.ext HX7.out).store5 HZ8.out HM8.out).more (New.up (Nat.le_trans HX7.out.size HM8.out.size))), h4⟩
  have HHE := Lib.hid (HHB.out.all HXE.out)
  have HI7e := Lib.hid (show New X1 wb we b7 from .inl HI7.out)
  have HI10 := Lib.hid (show New X1 wb we wd.heap.size from .inr HN10.out)
  have HXS2 := Lib.hid (show ∀ k, X k → New X1 wb we k from fun k hk => .inl (HXS.out k hk))
  have HB7e := Lib.hid (blk_mod (F := fun _ => False) HB7b.out (Mod.of_ext HXE.out) (fun h => h))
  have HKP2 := Lib.hid (HKP.out.trans (Keeps.of_ext HXE.out))
  clear HOL HX7 HZ8 HM8 HXC HXD HHB HRB HKB HKX HB4 HB7b HXE HKP HI7 HI4 HXS HN10
  generalize New X1 wb we = X2 at *
  have HC3 := Lib.hid (HOP1.out we X2 HHE.out)
  clear HOP1 HHE
  generalize wd.heap.size = b10 at *
  go_wp2_with fail
  refine HC3.out.mono ?_
  clear HC3
  rintro e wf hop
  rcases hop with ⟨hx0, q, rfl, _, hL, hK⟩ | ⟨hx0, rfl, hst⟩
  · simp only at hx0 hL
    subst hx0
    obtain ⟨hg2, hcl2, hrl, hlb⟩ := HOL2.out rfl
    subst hg2
    subst hcl2
    have HRL := Lib.hid (hrl.keeps hK)
    have HLB := Lib.hid hlb
    have HLG := Lib.hid hL
    have HB7f := Lib.hid (blk_mod HB7e.out hK (fun hn => hn HI7e.out))
    have HB10 := Lib.hid (blk_mod HN8.out hK (fun hn => hn HI10.out))
    have HKP3 := Lib.hid (HKP2.out.trans (hK.less HXS2.out))
    have HB7 := HB7f
    clear hrl hlb hL hK HOL2 HN8 HB7e HKP2
    obtain ⟨e0, e1, e2, e3, e4, e5, e6, e7, e8, _⟩ := nine_facts HB10.out
    have hHX := Ext.of_drew wf
    have HTL := Lib.hid (fun (v : World) (hx : Ext wf v) => tells5 (HLG.out.after hx) (HRL.out.ext hx))
    unfold lgv at HTL
    dsimp only
    go_wp2_with fail
    have hHeld := hHX
    refine wp_region_C (fun w' => Ext wf w') 7 (by kernel_rfl) ?_
    (refine wpAnyC_take [7] (i := 0) (oi := ⟨some 43, _, _, _, _, _⟩) (v := ?_) rfl (by kernel_rfl) (by kernel_rfl) (by kernel_rfl) (by kernel_rfl) (fun _ _ _ h => h) (Or.inl ⟨by rfl, ?_⟩) hHeld ?_; rotate_left; (focus (intro w hSw; (skip); go_simp; first | done | with_reducible rfl)); try simp only [Act.put, List.setIfInBounds_toArray, List.set_cons_zero, List.set_cons_succ])
    (refine wpAnyC_take [7] (i := 1) (oi := ⟨some 44, _, _, _, _, _⟩) (v := ?_) rfl (by kernel_rfl) (by kernel_rfl) (by kernel_rfl) (by kernel_rfl) (fun _ _ _ h => h) (Or.inl ⟨by rfl, ?_⟩) hHeld ?_; rotate_left; (focus (intro w hSw; ((have q0 := hSw.cell e0; have q1 := hSw.cell e1; have q2 := hSw.cell e2; have q3 := hSw.cell e3; have q4 := hSw.cell e4; have q5 := hSw.cell e5; have q6 := hSw.cell e6; have q7 := hSw.cell e7; have q8 := hSw.cell e8)); go_simp; first | done | with_reducible rfl)); try simp only [Act.put, List.setIfInBounds_toArray, List.set_cons_zero, List.set_cons_succ])
    (refine wpAnyC_take [5, 6, 7] (i := 2) (oi := ⟨some 45, _, _, _, _, _⟩) (v := ?_) rfl (by kernel_rfl) (by kernel_rfl) (by kernel_rfl) (by kernel_rfl) (fun _ _ _ h => h) (Or.inl ⟨by rfl, ?_⟩) hHeld ?_; rotate_left; (focus (intro w hSw; (skip); go_simp; first | done | with_reducible rfl)); try simp only [Act.put, List.setIfInBounds_toArray, List.set_cons_zero, List.set_cons_succ])
    (refine wpAnyC_take [5, 6, 7] (i := 3) (oi := ⟨some 46, _, _, _, _, _⟩) (v := ?_) rfl (by kernel_rfl) (by kernel_rfl) (by kernel_rfl) (by kernel_rfl) (fun _ _ _ h => h) (Or.inl ⟨by rfl, ?_⟩) hHeld ?_; rotate_left; (focus (intro w hSw; (skip); go_simp; first | done | with_reducible rfl)); try simp only [Act.put, List.setIfInBounds_toArray, List.set_cons_zero, List.set_cons_succ])
    (refine wpAnyC_take [5, 6, 7] (i := 4) (oi := ⟨some 47, _, _, _, _, _⟩) (v := ?_) rfl (by kernel_rfl) (by kernel_rfl) (by kernel_rfl) (by kernel_rfl) (fun _ _ _ h => h) (Or.inl ⟨by rfl, ?_⟩) hHeld ?_; rotate_left; (focus (intro w hSw; ((have q0 := hSw.cell e0; have q1 := hSw.cell e1; have q2 := hSw.cell e2; have q3 := hSw.cell e3; have q4 := hSw.cell e4; have q5 := hSw.cell e5; have q6 := hSw.cell e6; have q7 := hSw.cell e7; have q8 := hSw.cell e8)); go_simp; first | done | with_reducible rfl)); try simp only [Act.put, List.setIfInBounds_toArray, List.set_cons_zero, List.set_cons_succ])
    refine wpAnyC_one (i := 5) (oi := ⟨some 48, _, _, _, _, _⟩) rfl (by kernel_rfl) (by decide) (fun K hK => ?_)
    rw [if_pos (by rfl)]
    go_simp
    refine (HTL.out _ hHeld).mono ?_
    clear HTL
    rintro e wg ⟨rfl, hxg⟩
    have hHeld2 := hHeld.trans hxg
    refine hK.out _ _ hHeld2 ?_
    clear hHeld
    have hHeld := hHeld2
    clear hHeld2
    clear hK K
    try simp only [Act.put, List.setIfInBounds_toArray, List.set_cons_zero, List.set_cons_succ]
    (refine wpAnyC_take [7] (i := 6) (oi := ⟨some 6, _, _, _, _, _⟩) (v := ?_) rfl (by kernel_rfl) (by kernel_rfl) (by kernel_rfl) (by kernel_rfl) (fun _ _ _ h => h) (Or.inl ⟨by rfl, ?_⟩) hHeld ?_; rotate_left; (focus (intro w hSw; (skip); go_simp; first | done | with_reducible rfl)); try simp only [Act.put, List.setIfInBounds_toArray, List.set_cons_zero, List.set_cons_succ])
    have hbs := blk_mod (F := fun _ => False) HB7.out (Mod.of_ext hHeld) (fun h => h)
    have HHX := Lib.hid hHeld
    obtain ⟨d0, d1, d2, d3, d4, d5, d6, d7, d8, g0, g1, g2', g3, g4, g5, g6, g7, g8⟩ := nine_facts hbs
    clear hHeld hHX
    refine wpAnyC_c (oi := ⟨none, _, _, _, _, _⟩) rfl (by kernel_rfl) (fun K hK => ?_)
    rw [if_pos (by rfl)]
    go_simp
    have hm9 := mod_setCells (fun k => k = b7) wg b7 0 [.int .i64 r2.n, .slice xa xn xc, .slice ya yn yc, .bool r2.armed, .bool r2.down, .int .i64 r2.after, .int .u32 (L.gen : Int), .slice za zn zc, .bool L.cl] rfl
    have hb9 := blk_setCells b7 63 [.int .i64 r2.n, .slice xa xn xc, .slice ya yn yc, .bool r2.armed, .bool r2.down, .int .i64 r2.after, .int .u32 (L.gen : Int), .slice za zn zc, .bool L.cl] 0 wg _ hbs (by simp)
    show K _ (wg.setCells b7 0 [.int .i64 r2.n, .slice xa xn xc, .slice ya yn yc, .bool r2.armed, .bool r2.down, .int .i64 r2.after, .int .u32 (L.gen : Int), .slice za zn zc, .bool L.cl])
    generalize wg.setCells b7 0 [.int .i64 r2.n, .slice xa xn xc, .slice ya yn yc, .bool r2.armed, .bool r2.down, .int .i64 r2.after, .int .u32 (L.gen : Int), .slice za zn zc, .bool L.cl] = w9 at *
    refine hK.out _ _ ?_
    clear hK K
    try simp only [Act.put, List.setIfInBounds_toArray, List.set_cons_zero, List.set_cons_succ]
    clear d0 d1 d2 d3 d4 d5 d6 d7 d8 g0 g1 g2' g3 g4 g5 g6 g7 g8
    (refine wpAny_take (i := 8) (oi := ⟨some 8, _, _, _, _, _⟩) (v := ?_) rfl (by kernel_rfl) (by kernel_rfl) (by kernel_rfl) (fun _ _ _ h => h) (Or.inl ⟨by rfl, ?_⟩) ?_; rotate_left; (focus (intro w; go_simp; first | done | with_reducible rfl)); try simp only [Act.put, List.setIfInBounds_toArray, List.set_cons_zero, List.set_cons_succ])
    (refine wpAny_take (i := 9) (oi := ⟨some 9, _, _, _, _, _⟩) (v := ?_) rfl (by kernel_rfl) (by kernel_rfl) (by kernel_rfl) (fun _ _ _ h => h) (Or.inl ⟨by rfl, ?_⟩) ?_; rotate_left; (focus (intro w; go_simp; first | done | with_reducible rfl)); try simp only [Act.put, List.setIfInBounds_toArray, List.set_cons_zero, List.set_cons_succ])
    refine wpAny_done (by kernel_rfl) ?_ _
    obtain ⟨d0, d1, d2, d3, d4, d5, d6, d7, d8, g0, g1, g2', g3, g4, g5, g6, g7, g8⟩ := nine_facts hb9
    have HLG9 := Lib.hid (((HLG.out.after HHX.out).mod_in hm9 (fun k e => by subst e; exact ⟨HI7e.out, by have := HB7W.out; have := HW0.out; omega⟩)).less (X' := X2) (fun _ hk => .inl hk) (HLG.out.after HHX.out).old)
    have HRL9 := Lib.hid ((HRL.out.ext HHX.out).store5 hbs hm9)
    have HKF := Lib.hid ((HKP3.out.trans (Keeps.of_ext HHX.out)).trans (hm9.mono (fun k e hx => by subst e; have := HXL.out _ hx; have := HB7W.out; omega)))
    clear hbs hm9 hb9 e0 e1 e2 e3 e4 e5 e6 e7 e8 HHX
    go_wp2
    refine bodyPost_ret (v := .tuple #[.pointer (some ⟨q, 0, none⟩), .agg #[.int .i64 r2.n, .slice xa xn xc, .slice ya yn yc, .bool r2.armed, .bool r2.down, .int .i64 r2.after, .int .u32 (L.gen : Int), .slice za zn zc, .bool L.cl], .bool true, .bool true]) (by simp [results, Try.results31, go_sem, d0, d1, d2, d3, d4, d5, d6, d7, d8]) rfl ?_
    exact .inl ⟨rfl, X2, q, r2, .slice xa xn xc, .slice ya yn yc, .slice za zn zc, rfl, HXS2.out, HLG9.out, HRL9.out, HLB.out, HKF.out⟩
  · simp only at hx0 hst
    have HB7f := Lib.hid (blk_mod HB7e.out hst.2 (fun hn => hn HI7e.out))
    have HB10 := Lib.hid (blk_mod HN8.out hst.2 (fun hn => hn HI10.out))
    have HKP3 := Lib.hid (HKP2.out.trans (hst.2.less HXS2.out))
    have HB7 := HB7f
    have HNZ := Lib.hid hx0
    have hzn : (cc != 0) = true := by rw [bne_iff_ne]; exact hx0
    clear hst HOL2 HN8 HB7e HKP2 hx0
    obtain ⟨e0, e1, e2, e3, e4, e5, e6, e7, e8, _⟩ := nine_facts HB10.out
    have hHX := Ext.of_drew wf
    dsimp only
    go_wp2_with fail
    have hHeld := hHX
    refine wp_region_C (fun w' => Ext wf w') 2 (by kernel_rfl) ?_
    generalize wf.drew = wz at *
    (refine wpAnyC_take [2] (i := 0) (oi := ⟨some 42, _, _, _, _, _⟩) (v := ?_) rfl (by kernel_rfl) (by kernel_rfl) (by kernel_rfl) (by kernel_rfl) (fun _ _ _ h => h) (Or.inl ⟨by rfl, ?_⟩) hHeld ?_; rotate_left; (focus (intro w hSw; ((have q0 := hSw.cell e0; have q1 := hSw.cell e1; have q2 := hSw.cell e2; have q3 := hSw.cell e3; have q4 := hSw.cell e4; have q5 := hSw.cell e5; have q6 := hSw.cell e6; have q7 := hSw.cell e7; have q8 := hSw.cell e8)); go_simp; first | done | with_reducible rfl)); try simp only [Act.put, List.setIfInBounds_toArray, List.set_cons_zero, List.set_cons_succ])
    (refine wpAnyC_take [2] (i := 1) (oi := ⟨some 6, _, _, _, _, _⟩) (v := ?_) rfl (by kernel_rfl) (by kernel_rfl) (by kernel_rfl) (by kernel_rfl) (fun _ _ _ h => h) (Or.inl ⟨by rfl, ?_⟩) hHeld ?_; rotate_left; (focus (intro w hSw; (skip); go_simp; first | done | with_reducible rfl)); try simp only [Act.put, List.setIfInBounds_toArray, List.set_cons_zero, List.set_cons_succ])
    have hbs := blk_mod (F := fun _ => False) HB7.out (Mod.of_ext hHeld) (fun h => h)
    have HHX := Lib.hid hHeld
    obtain ⟨d0, d1, d2, d3, d4, d5, d6, d7, d8, g0, g1, g2', g3, g4, g5, g6, g7, g8⟩ := nine_facts hbs
    clear hHeld hHX
    refine wpAnyC_c (oi := ⟨none, _, _, _, _, _⟩) rfl (by kernel_rfl) (fun K hK => ?_)
    rw [if_pos (by rfl)]
    go_simp
    have hm9 := mod_setCells (fun k => k = b7) wz b7 0 [.int .i64 r2.n, .slice xa xn xc, .slice ya yn yc, .bool r2.armed, .bool r2.down, .int .i64 r2.after, .int .u32 (g2 : Int), .slice za zn zc, .bool cl2] rfl
    have hb9 := blk_setCells b7 63 [.int .i64 r2.n, .slice xa xn xc, .slice ya yn yc, .bool r2.armed, .bool r2.down, .int .i64 r2.after, .int .u32 (g2 : Int), .slice za zn zc, .bool cl2] 0 wz _ hbs (by simp)
    show K _ (wz.setCells b7 0 [.int .i64 r2.n, .slice xa xn xc, .slice ya yn yc, .bool r2.armed, .bool r2.down, .int .i64 r2.after, .int .u32 (g2 : Int), .slice za zn zc, .bool cl2])
    generalize wz.setCells b7 0 [.int .i64 r2.n, .slice xa xn xc, .slice ya yn yc, .bool r2.armed, .bool r2.down, .int .i64 r2.after, .int .u32 (g2 : Int), .slice za zn zc, .bool cl2] = w9 at *
    refine hK.out _ _ ?_
    clear hK K
    try simp only [Act.put, List.setIfInBounds_toArray, List.set_cons_zero, List.set_cons_succ]
    clear d0 d1 d2 d3 d4 d5 d6 d7 d8 g0 g1 g2' g3 g4 g5 g6 g7 g8
    (refine wpAny_take (i := 3) (oi := ⟨some 8, _, _, _, _, _⟩) (v := ?_) rfl (by kernel_rfl) (by kernel_rfl) (by kernel_rfl) (fun _ _ _ h => h) (Or.inl ⟨by rfl, ?_⟩) ?_; rotate_left; (focus (intro w; go_simp; first | done | with_reducible rfl)); try simp only [Act.put, List.setIfInBounds_toArray, List.set_cons_zero, List.set_cons_succ])
    (refine wpAny_take (i := 4) (oi := ⟨some 9, _, _, _, _, _⟩) (v := ?_) rfl (by kernel_rfl) (by kernel_rfl) (by kernel_rfl) (fun _ _ _ h => h) (Or.inl ⟨by rfl, ?_⟩) ?_; rotate_left; (focus (intro w; go_simp; first | done | with_reducible rfl)); try simp only [Act.put, List.setIfInBounds_toArray, List.set_cons_zero, List.set_cons_succ])
    refine wpAny_done (by kernel_rfl) ?_ _
    obtain ⟨d0, d1, d2, d3, d4, d5, d6, d7, d8, g0, g1, g2', g3, g4, g5, g6, g7, g8⟩ := nine_facts hb9
    have HKF := Lib.hid ((HKP3.out.trans (Keeps.of_ext HHX.out)).trans (hm9.mono (fun k e hx => by subst e; have := HXL.out _ hx; have := HB7W.out; omega)))
    clear hbs hm9 hb9 e0 e1 e2 e3 e4 e5 e6 e7 e8 HHX
    go_wp2
    refine bodyPost_ret (v := .tuple #[.pointer none, .agg #[.int .i64 r2.n, .slice xa xn xc, .slice ya yn yc, .bool r2.armed, .bool r2.down, .int .i64 r2.after, .int .u32 (g2 : Int), .slice za zn zc, .bool cl2], .bool false, .bool true]) (by simp [results, Try.results31, go_sem, d0, d1, d2, d3, d4, d5, d6, d7, d8]) rfl ?_
    exact .inr ⟨HNZ.out, r2, .slice xa xn xc, .slice ya yn yc, .slice za zn zc, g2, cl2, rfl, ⟨_, _, _, rfl⟩, ⟨_, _, _, rfl⟩, ⟨_, _, _, rfl⟩, HKF.out⟩
end Go.Proofs.Ytmcmocakfhedfaa
