/- jetwaylaw04.play: a call is answered as the document says. -/
import Derived.Test.YtmlancmcgcjodaaPS
import Derived.Deep.Cut
namespace Go.Proofs.Ytmlancmcgcjodaa
open Go.RowKit

def PlayOut (w0 wS w' : World) (X : Nat → Prop) (k0 : Nat) (e : Ending) : Prop := ∃ p d r sv wv, e = .returned (.tuple #[.pointer (some ⟨p, 0, none⟩), rv r sv wv, .bool true]) ∧ PE w0 wS w' X k0 p d r sv wv
theorem PS.re {w0 wS v : World} {X Y Y' : Nat → Prop} {b4 b5 b7 p q : Nat} {d c : D.Dsk} {M A Z : Array Value} (h : PS w0 wS v X Y b4 b5 b7 p d M A Z) (hH : Held w0 v Y' q c) (y4 : Y' b4) (y5 : Y' b5) (y7 : Y' b7) (hs : ∀ k, X k → Y' k) : PS w0 wS v X Y' b4 b5 b7 q c M A Z :=
  ⟨hH, h.box4, h.box5, h.box7, y4, y5, y7, h.n45, h.n47, h.n57, h.h4, h.h7, h.x4, h.x7, hs, h.kp⟩
theorem PS.other {w0 wS v v' : World} {X Y : Nat → Prop} {b4 b5 b7 p g : Nat} {d : D.Dsk} {M A Z : Array Value} (h : PS w0 wS v X Y b4 b5 b7 p d M A Z) (hm : Mod (fun k => k = g) v v') (hY : Y g) (h0 : w0.heap.size ≤ g) (hX : ¬ X g) (g4 : b4 ≠ g) (g5 : b5 ≠ g) (g7 : b7 ≠ g) : PS w0 wS v' X Y b4 b5 b7 p d M A Z :=
  ⟨h.held.mod_in hY h0 hm, blk_mod h.box4 hm g4, blk_mod h.box5 hm g5, blk_mod h.box7 hm g7, h.y4, h.y5, h.y7, h.n45, h.n47, h.n57, h.h4, h.h7, h.x4, h.x7, h.sub, h.kp.trans (hm.mono (fun k e hx => hX (e ▸ hx)))⟩
theorem RowIn.neT {w : World} {v : Value} {l : List (Int × List UInt8)} (h : RowIn w v l) {b : Nat} {A : Array Value} {e : TypeId} {fr : Nat × Nat} (hb : w.heap[b]? = some (.cells A e fr)) (he : (81 : Nat) ≠ e) : ∀ k, v.ownBlock = some k → ¬ k = b := by
  rintro k hk rfl
  rcases h.2 with ⟨rfl, _⟩ | ⟨g, cap, cur, rfl, _, hh, _⟩
  · simp [Value.ownBlock] at hk
  · have : g = k := by simpa [Value.ownBlock] using hk
    subst this
    rw [hh] at hb
    have h3 : (81 : Nat) = e := by injection (Option.some.inj hb)
    exact absurd h3 he
theorem own_blk {w : World} {base : Nat} {e : TypeId} {g n cap : Nat} {xs : List Value} (h : w.ownsRow base e 1 (.slice (some ⟨g, 0, none⟩) n cap) n xs) : ∃ cur, w.heap[g]? = some (.cells cur e (0, 0)) := by
  rcases h.2 with ⟨h0, _⟩ | ⟨g', cap', cur, he, _, hh, _⟩
  · cases h0
  · obtain ⟨h1, _, _⟩ := Value.slice.inj he
    have : g = g' := by injection (Option.some.inj h1)
    subst this
    exact ⟨cur, hh⟩

set_option maxRecDepth 100000 in
set_option maxHeartbeats 6400000 in
theorem play_other {w0 w : World} {X : Nat → Prop} {p : Nat} {d : D.Dsk} {r : Ref4} {sv wv : Value} (h : Held w0 w X p d) (hr : RefAt w X r sv wv) (hrel : Rel d r) (hlen : R4.len r ≤ 900000) (kind i n : Int) (da ka : Option Addr) (dn dc kn kc : Nat) (hk : kind < 0 ∨ 8 < kind) :
    Calls Try.prog 24 #[.pointer (some ⟨p, 0, none⟩), rv r sv wv, .agg #[.int .i64 kind, .int .i64 i, .int .i64 n, .slice da dn dc, .slice ka kn kc]] w fun e w' => PlayOut w0 w w' X (R4.len r) e := by
  have hswl : r.safe.length + r.wait.length ≤ 900000 := hlen
  have hwait : d.wait.length ≤ 1000000 := by rw [hrel.wait]; omega
  have HREL := Lib.hid hrel
  obtain ⟨sa, sn, sc, hsv⟩ := hr.safe.any
  obtain ⟨wa, wn, wc', hwv⟩ := hr.wait.any
  subst hsv
  subst hwv
  obtain ⟨rn, safe, wait, armed, down, after⟩ := r
  simp only at hswl
  unfold rv
  simp only
  have hx1 : Ext w (((w.alloc (.cells #[.int .i64 rn, .slice sa sn sc, .slice wa wn wc', .bool armed, .bool down, .int .i64 after] 51)).alloc (.cells #[.int .i64 kind, .int .i64 i, .int .i64 n, .slice da dn dc, .slice ka kn kc] 56)).alloc (.cells #[.int .i64 0, .slice none 0 0, .slice none 0 0, .bool false, .bool false, .int .i64 0] 51)) := ((Ext.of_alloc w _).alloc _).alloc _
  have hPS := PS.start h #[.int .i64 rn, .slice sa sn sc, .slice wa wn wc', .bool armed, .bool down, .int .i64 after] #[.int .i64 kind, .int .i64 i, .int .i64 n, .slice da dn dc, .slice ka kn kc] #[.int .i64 0, .slice none 0 0, .slice none 0 0, .bool false, .bool false, .int .i64 0]
  have hRA := hr.all hx1
  clear h hr hrel
  go_enter Try.func24, Try.ntmps24
  go_upto_region 1 with (fail)
  generalize ((w.alloc (.cells #[.int .i64 rn, .slice sa sn sc, .slice wa wn wc', .bool armed, .bool down, .int .i64 after] 51)).alloc (.cells #[.int .i64 kind, .int .i64 i, .int .i64 n, .slice da dn dc, .slice ka kn kc] 56)).alloc (.cells #[.int .i64 0, .slice none 0 0, .slice none 0 0, .bool false, .bool false, .int .i64 0] 51) = w1 at *
  generalize New X w w1 = Y at *
  generalize w.heap.size + 1 + 1 = b7 at *
  generalize w.heap.size + 1 = b5 at *
  generalize w.heap.size = b4 at *
  have HX1 := Lib.hid hx1
  have HPS := Lib.hid hPS
  have HRA := Lib.hid hRA
  have n45 := hPS.n45
  have n47 := hPS.n47
  have n57 := hPS.n57
  obtain ⟨c0, c1, c2, c3, c4, c5, _⟩ := box_facts hPS.box4
  obtain ⟨e0, e1, e2, e3, e4⟩ := box5_facts hPS.box5
  clear hx1 hPS hRA
  have k0 : (kind == 0) = false := by rw [beq_eq_false_iff_ne]; omega
  have k1 : (kind == 1) = false := by rw [beq_eq_false_iff_ne]; omega
  have k2 : (kind == 2) = false := by rw [beq_eq_false_iff_ne]; omega
  have k3 : (kind == 3) = false := by rw [beq_eq_false_iff_ne]; omega
  have k4 : (kind == 4) = false := by rw [beq_eq_false_iff_ne]; omega
  have k5 : (kind == 5) = false := by rw [beq_eq_false_iff_ne]; omega
  have k6 : (kind == 6) = false := by rw [beq_eq_false_iff_ne]; omega
  have k7 : (kind == 7) = false := by rw [beq_eq_false_iff_ne]; omega
  have k8 : (kind == 8) = false := by rw [beq_eq_false_iff_ne]; omega
  clear hk
  have hHeld := Ext.of_drew w1
  go_wp2_with fail
  refine wp_region_C (fun w' => Ext w1 w') 10 (by kernel_rfl) ?_
  generalize w1.drew = wz at *
  (refine wpAnyC_take [10] (i := 0) (oi := ⟨some 130, _, _, _, _, _⟩) (v := ?_) rfl (by kernel_rfl) (by kernel_rfl) (by kernel_rfl) (by kernel_rfl) (fun _ _ _ h => h) (Or.inl ⟨by rfl, ?_⟩) hHeld ?_; rotate_left; (focus (intro w hSw; (skip); go_simp; first | done | with_reducible rfl)); try simp only [Act.put, List.setIfInBounds_toArray, List.set_cons_zero, List.set_cons_succ])
  (refine wpAnyC_take [10] (i := 1) (oi := ⟨some 131, _, _, _, _, _⟩) (v := ?_) rfl (by kernel_rfl) (by kernel_rfl) (by kernel_rfl) (by kernel_rfl) (fun _ _ _ h => h) (Or.inl ⟨by rfl, ?_⟩) hHeld ?_; rotate_left; (focus (intro w hSw; (have q0 := hSw.cell c0; have q1 := hSw.cell c1; have q2 := hSw.cell c2; have q3 := hSw.cell c3; have q4 := hSw.cell c4; have q5 := hSw.cell c5); go_simp; first | done | with_reducible rfl)); try simp only [Act.put, List.setIfInBounds_toArray, List.set_cons_zero, List.set_cons_succ])
  (refine wpAnyC_take [3, 4, 9, 10] (i := 2) (oi := ⟨some 132, _, _, _, _, _⟩) (v := ?_) rfl (by kernel_rfl) (by kernel_rfl) (by kernel_rfl) (by kernel_rfl) (fun _ _ _ h => h) (Or.inl ⟨by rfl, ?_⟩) hHeld ?_; rotate_left; (focus (intro w hSw; (skip); go_simp; first | done | with_reducible rfl)); try simp only [Act.put, List.setIfInBounds_toArray, List.set_cons_zero, List.set_cons_succ])
  (refine wpAnyC_take [4, 9, 10] (i := 3) (oi := ⟨some 133, _, _, _, _, _⟩) (v := ?_) rfl (by kernel_rfl) (by kernel_rfl) (by kernel_rfl) (by kernel_rfl) (fun _ _ _ h => h) (Or.inl ⟨by rfl, ?_⟩) hHeld ?_; rotate_left; (focus (intro w hSw; (skip); go_simp; first | done | with_reducible rfl)); try simp only [Act.put, List.setIfInBounds_toArray, List.set_cons_zero, List.set_cons_succ])
  (refine wpAnyC_take [9, 10] (i := 4) (oi := ⟨some 134, _, _, _, _, _⟩) (v := ?_) rfl (by kernel_rfl) (by kernel_rfl) (by kernel_rfl) (by kernel_rfl) (fun _ _ _ h => h) (Or.inl ⟨by rfl, ?_⟩) hHeld ?_; rotate_left; (focus (intro w hSw; (skip); go_simp; first | done | with_reducible rfl)); try simp only [Act.put, List.setIfInBounds_toArray, List.set_cons_zero, List.set_cons_succ])
  (refine wpAnyC_pure (i := 5) (oi := ⟨some 135, _, _, _, _, _⟩) (v := ?_) rfl (by kernel_rfl) (by kernel_rfl) (by kernel_rfl) (by kernel_rfl) (fun _ _ _ h => h) (Or.inl ⟨by rfl, ?_⟩) hHeld ?_; rotate_left; (focus (intro w; go_simp; first | done | with_reducible rfl)); try simp only [Act.put, List.setIfInBounds_toArray, List.set_cons_zero, List.set_cons_succ])
  (refine wpAnyC_pure (i := 6) (oi := ⟨some 136, _, _, _, _, _⟩) (v := ?_) rfl (by kernel_rfl) (by kernel_rfl) (by kernel_rfl) (by kernel_rfl) (fun _ _ _ h => h) (Or.inl ⟨by rfl, ?_⟩) hHeld ?_; rotate_left; (focus (intro w; go_simp; first | done | with_reducible rfl)); try simp only [Act.put, List.setIfInBounds_toArray, List.set_cons_zero, List.set_cons_succ])
  (refine wpAnyC_pure (i := 7) (oi := ⟨some 137, _, _, _, _, _⟩) (v := ?_) rfl (by kernel_rfl) (by kernel_rfl) (by kernel_rfl) (by kernel_rfl) (fun _ _ _ h => h) (Or.inl ⟨by rfl, ?_⟩) hHeld ?_; rotate_left; (focus (intro w; go_simp; first | done | with_reducible rfl)); try simp only [Act.put, List.setIfInBounds_toArray, List.set_cons_zero, List.set_cons_succ])
  (refine wpAnyC_pure (i := 8) (oi := ⟨some 138, _, _, _, _, _⟩) (v := ?_) rfl (by kernel_rfl) (by kernel_rfl) (by kernel_rfl) (by kernel_rfl) (fun _ _ _ h => h) (Or.inl ⟨by rfl, ?_⟩) hHeld ?_; rotate_left; (focus (intro w; go_simp; first | done | with_reducible rfl)); try simp only [Act.put, List.setIfInBounds_toArray, List.set_cons_zero, List.set_cons_succ])
  (refine wpAnyC_take [10] (i := 9) (oi := ⟨some 6, _, _, _, _, _⟩) (v := ?_) rfl (by kernel_rfl) (by kernel_rfl) (by kernel_rfl) (by kernel_rfl) (fun _ _ _ h => h) (Or.inl ⟨by rfl, ?_⟩) hHeld ?_; rotate_left; (focus (intro w hSw; (skip); go_simp; first | done | with_reducible rfl)); try simp only [Act.put, List.setIfInBounds_toArray, List.set_cons_zero, List.set_cons_succ])
  have hps := HPS.out.ext0 hHeld
  obtain ⟨d0, d1, d2, d3, d4, d5, g0, g1, g2, g3, g4, g5⟩ := box_facts hps.box7
  refine wpAnyC_c (oi := ⟨none, _, _, _, _, _⟩) rfl (by kernel_rfl) (fun K hK => ?_)
  rw [if_pos (by rfl)]
  go_simp
  have hm9 := mod_setCells (fun k => k = b7) wz b7 0 [.int .i64 rn, .slice sa sn sc, .slice wa wn wc', .bool armed, .bool down, .int .i64 after] rfl
  have hb9 := blk_setCells b7 51 [.int .i64 rn, .slice sa sn sc, .slice wa wn wc', .bool armed, .bool down, .int .i64 after] 0 wz _ hps.box7 (by simp)
  show K _ (wz.setCells b7 0 [.int .i64 rn, .slice sa sn sc, .slice wa wn wc', .bool armed, .bool down, .int .i64 after])
  generalize wz.setCells b7 0 [.int .i64 rn, .slice sa sn sc, .slice wa wn wc', .bool armed, .bool down, .int .i64 after] = w9 at *
  refine hK.out _ _ ?_
  clear hK K
  try simp only [Act.put, List.setIfInBounds_toArray, List.set_cons_zero, List.set_cons_succ]
  (refine wpAny_take (i := 11) (oi := ⟨some 8, _, _, _, _, _⟩) (v := ?_) rfl (by kernel_rfl) (by kernel_rfl) (by kernel_rfl) (fun _ _ _ h => h) (Or.inl ⟨by rfl, ?_⟩) ?_; rotate_left; (focus (intro w; go_simp; first | done | with_reducible rfl)); try simp only [Act.put, List.setIfInBounds_toArray, List.set_cons_zero, List.set_cons_succ])
  refine wpAny_done (by kernel_rfl) ?_ _
  clear d0 d1 d2 d3 d4 d5 g0 g1 g2 g3 g4 g5
  obtain ⟨d0, d1, d2, d3, d4, d5, g0, g1, g2, g3, g4, g5⟩ := box_facts hb9
  go_wp2
  refine bodyPost_ret (v := .tuple #[.pointer (some ⟨p, 0, none⟩), .agg #[.int .i64 rn, .slice sa sn sc, .slice wa wn wc', .bool armed, .bool down, .int .i64 after], .bool true]) (by simp [results, Try.results24, go_sem, d0, d1, d2, d3, d4, d5]) rfl ⟨_, _, ⟨rn, safe, wait, armed, down, after⟩, _, _, rfl, hps.ends (HRA.out.ext hHeld) HREL.out (by show R4.len _ ≤ R4.len _ + 1; omega) hm9⟩

set_option maxRecDepth 100000 in
set_option maxHeartbeats 6400000 in
theorem play_flush {w0 w : World} {X : Nat → Prop} {p : Nat} {d : D.Dsk} {r : Ref4} {sv wv : Value} (h : Held w0 w X p d) (hr : RefAt w X r sv wv) (hrel : Rel d r) (hlen : R4.len r ≤ 900000) (i n : Int) (da ka : Option Addr) (dn dc kn kc : Nat) :
    Calls Try.prog 24 #[.pointer (some ⟨p, 0, none⟩), rv r sv wv, .agg #[.int .i64 3, .int .i64 i, .int .i64 n, .slice da dn dc, .slice ka kn kc]] w fun e w' => PlayOut w0 w w' X (R4.len r) e := by
  have hswl : r.safe.length + r.wait.length ≤ 900000 := hlen
  have hwait : d.wait.length ≤ 1000000 := by rw [hrel.wait]; omega
  have HREL := Lib.hid hrel
  obtain ⟨sa, sn, sc, hsv⟩ := hr.safe.any
  obtain ⟨wa, wn, wc', hwv⟩ := hr.wait.any
  subst hsv
  subst hwv
  obtain ⟨rn, safe, wait, armed, down, after⟩ := r
  simp only at hswl
  unfold rv
  simp only
  have hx1 : Ext w (((w.alloc (.cells #[.int .i64 rn, .slice sa sn sc, .slice wa wn wc', .bool armed, .bool down, .int .i64 after] 51)).alloc (.cells #[.int .i64 3, .int .i64 i, .int .i64 n, .slice da dn dc, .slice ka kn kc] 56)).alloc (.cells #[.int .i64 0, .slice none 0 0, .slice none 0 0, .bool false, .bool false, .int .i64 0] 51)) := ((Ext.of_alloc w _).alloc _).alloc _
  have hPS := PS.start h #[.int .i64 rn, .slice sa sn sc, .slice wa wn wc', .bool armed, .bool down, .int .i64 after] #[.int .i64 3, .int .i64 i, .int .i64 n, .slice da dn dc, .slice ka kn kc] #[.int .i64 0, .slice none 0 0, .slice none 0 0, .bool false, .bool false, .int .i64 0]
  have hRA := hr.all hx1
  clear h hr hrel
  go_enter Try.func24, Try.ntmps24
  go_upto_region 1 with (fail)
  generalize ((w.alloc (.cells #[.int .i64 rn, .slice sa sn sc, .slice wa wn wc', .bool armed, .bool down, .int .i64 after] 51)).alloc (.cells #[.int .i64 3, .int .i64 i, .int .i64 n, .slice da dn dc, .slice ka kn kc] 56)).alloc (.cells #[.int .i64 0, .slice none 0 0, .slice none 0 0, .bool false, .bool false, .int .i64 0] 51) = w1 at *
  generalize New X w w1 = Y at *
  generalize w.heap.size + 1 + 1 = b7 at *
  generalize w.heap.size + 1 = b5 at *
  generalize w.heap.size = b4 at *
  have HX1 := Lib.hid hx1
  have HPS := Lib.hid hPS
  have HRA := Lib.hid hRA
  have n45 := hPS.n45
  have n47 := hPS.n47
  have n57 := hPS.n57
  obtain ⟨c0, c1, c2, c3, c4, c5, _⟩ := box_facts hPS.box4
  obtain ⟨e0, e1, e2, e3, e4⟩ := box5_facts hPS.box5
  clear hx1 hPS hRA
  have hC := ref_flush ⟨rn, safe, wait, armed, down, after⟩ Y (.slice sa sn sc) (.slice wa wn wc') w1 HRA.out (show safe.length + wait.length ≤ 1000000 by omega)
  unfold rv at hC
  simp only at hC
  have HQ := Lib.hid (HREL.out.flush)
  have HLN := Lib.hid (Nat.le_trans (flush_len ⟨rn, safe, wait, armed, down, after⟩) (Nat.le_succ _))
  generalize R4.flush ⟨rn, safe, wait, armed, down, after⟩ = RES at *
  obtain ⟨⟨qn, qS, qW, qr, qd, qf⟩, qk⟩ := RES
  simp only at hC HQ HLN
  have HC := Lib.hid hC
  clear hC
  go_wp2_with fail
  refine HC.out.mono ?_
  clear HC
  rintro e w2 ⟨sv', wv', rfl, hra, hx2⟩
  unfold rv
  simp only
  have hPSn := HPS.out.ext hx2
  generalize New Y w1 w2 = Y2 at *
  clear HPS HRA
  have HPS := Lib.hid hPSn
  have HRA := Lib.hid hra
  clear hPSn hra hx2
  obtain ⟨qa, qs, qc, hsv⟩ := HRA.out.safe.any
  obtain ⟨va, vs, vc, hwv⟩ := HRA.out.wait.any
  subst hsv
  subst hwv
  clear c0 c1 c2 c3 c4 c5 e0 e1 e2 e3 e4
  obtain ⟨c0, c1, c2, c3, c4, c5, _⟩ := box_facts HPS.out.box4
  obtain ⟨e0, e1, e2, e3, e4⟩ := box5_facts HPS.out.box5
  go_wp2_with (first
    | ((with_reducible show wpList _ _ _ (⟨none, Op.store _ (Operand.tmp 4) _, _, _, _, _⟩ :: _) _ _); refine wpl_store_all _ rfl 51 _ _ rfl b4 51 [_, _, _, _, _, _] HPS.out.box4 rfl [.int .i64 qn, .slice qa qs qc, .slice va vs vc, .bool qr, .bool qd, .int .i64 qf] rfl rfl size_d4 (by simp [Value.oneCell']) ?_; intro w3 hbn hmn hszn; have hPSn := HPS.out.store hmn hbn; have hRAn := HRA.out.store HPS.out.box4 hmn; clear HPS HRA; have HPS := Lib.hid hPSn; have HRA := Lib.hid hRAn; have HMN := Lib.hid hmn; clear hPSn hRAn hmn hbn hszn; clear c0 c1 c2 c3 c4 c5 e0 e1 e2 e3 e4; obtain ⟨c0, c1, c2, c3, c4, c5, _⟩ := box_facts HPS.out.box4; obtain ⟨e0, e1, e2, e3, e4⟩ := box5_facts HPS.out.box5)
    | fail)
  refine (held_flush HPS.out.held).mono ?_
  rintro e w4 ⟨rfl, hstep⟩
  rw [HQ.out.2]
  have hPSn := HPS.out.step hstep
  have hRAn := HRA.out.keeps hstep.2
  clear HPS HRA
  have HPS := Lib.hid hPSn
  have HRA := Lib.hid hRAn
  clear hPSn hRAn hstep
  clear c0 c1 c2 c3 c4 c5 e0 e1 e2 e3 e4
  obtain ⟨c0, c1, c2, c3, c4, c5, _⟩ := box_facts HPS.out.box4
  obtain ⟨e0, e1, e2, e3, e4⟩ := box5_facts HPS.out.box5
  have hHeld := Ext.of_drew w4
  go_wp2_with fail
  refine wp_region_C (fun w' => Ext w4 w') 10 (by kernel_rfl) ?_
  generalize w4.drew = wz at *
  (refine wpAnyC_take [10] (i := 0) (oi := ⟨some 130, _, _, _, _, _⟩) (v := ?_) rfl (by kernel_rfl) (by kernel_rfl) (by kernel_rfl) (by kernel_rfl) (fun _ _ _ h => h) (Or.inl ⟨by rfl, ?_⟩) hHeld ?_; rotate_left; (focus (intro w hSw; (skip); go_simp; first | done | with_reducible rfl)); try simp only [Act.put, List.setIfInBounds_toArray, List.set_cons_zero, List.set_cons_succ])
  (refine wpAnyC_take [10] (i := 1) (oi := ⟨some 131, _, _, _, _, _⟩) (v := ?_) rfl (by kernel_rfl) (by kernel_rfl) (by kernel_rfl) (by kernel_rfl) (fun _ _ _ h => h) (Or.inl ⟨by rfl, ?_⟩) hHeld ?_; rotate_left; (focus (intro w hSw; (have q0 := hSw.cell c0; have q1 := hSw.cell c1; have q2 := hSw.cell c2; have q3 := hSw.cell c3; have q4 := hSw.cell c4; have q5 := hSw.cell c5); go_simp; first | done | with_reducible rfl)); try simp only [Act.put, List.setIfInBounds_toArray, List.set_cons_zero, List.set_cons_succ])
  (refine wpAnyC_take [3, 4, 9, 10] (i := 2) (oi := ⟨some 132, _, _, _, _, _⟩) (v := ?_) rfl (by kernel_rfl) (by kernel_rfl) (by kernel_rfl) (by kernel_rfl) (fun _ _ _ h => h) (Or.inl ⟨by rfl, ?_⟩) hHeld ?_; rotate_left; (focus (intro w hSw; (skip); go_simp; first | done | with_reducible rfl)); try simp only [Act.put, List.setIfInBounds_toArray, List.set_cons_zero, List.set_cons_succ])
  (refine wpAnyC_take [4, 9, 10] (i := 3) (oi := ⟨some 133, _, _, _, _, _⟩) (v := ?_) rfl (by kernel_rfl) (by kernel_rfl) (by kernel_rfl) (by kernel_rfl) (fun _ _ _ h => h) (Or.inl ⟨by rfl, ?_⟩) hHeld ?_; rotate_left; (focus (intro w hSw; (skip); go_simp; first | done | with_reducible rfl)); try simp only [Act.put, List.setIfInBounds_toArray, List.set_cons_zero, List.set_cons_succ])
  (refine wpAnyC_take [9, 10] (i := 4) (oi := ⟨some 134, _, _, _, _, _⟩) (v := ?_) rfl (by kernel_rfl) (by kernel_rfl) (by kernel_rfl) (by kernel_rfl) (fun _ _ _ h => h) (Or.inl ⟨by rfl, ?_⟩) hHeld ?_; rotate_left; (focus (intro w hSw; (skip); go_simp; first | done | with_reducible rfl)); try simp only [Act.put, List.setIfInBounds_toArray, List.set_cons_zero, List.set_cons_succ])
  (refine wpAnyC_pure (i := 5) (oi := ⟨some 135, _, _, _, _, _⟩) (v := ?_) rfl (by kernel_rfl) (by kernel_rfl) (by kernel_rfl) (by kernel_rfl) (fun _ _ _ h => h) (Or.inl ⟨by rfl, ?_⟩) hHeld ?_; rotate_left; (focus (intro w; go_simp; first | done | with_reducible rfl)); try simp only [Act.put, List.setIfInBounds_toArray, List.set_cons_zero, List.set_cons_succ])
  (refine wpAnyC_pure (i := 6) (oi := ⟨some 136, _, _, _, _, _⟩) (v := ?_) rfl (by kernel_rfl) (by kernel_rfl) (by kernel_rfl) (by kernel_rfl) (fun _ _ _ h => h) (Or.inl ⟨by rfl, ?_⟩) hHeld ?_; rotate_left; (focus (intro w; go_simp; first | done | with_reducible rfl)); try simp only [Act.put, List.setIfInBounds_toArray, List.set_cons_zero, List.set_cons_succ])
  (refine wpAnyC_pure (i := 7) (oi := ⟨some 137, _, _, _, _, _⟩) (v := ?_) rfl (by kernel_rfl) (by kernel_rfl) (by kernel_rfl) (by kernel_rfl) (fun _ _ _ h => h) (Or.inl ⟨by rfl, ?_⟩) hHeld ?_; rotate_left; (focus (intro w; go_simp; first | done | with_reducible rfl)); try simp only [Act.put, List.setIfInBounds_toArray, List.set_cons_zero, List.set_cons_succ])
  (refine wpAnyC_pure (i := 8) (oi := ⟨some 138, _, _, _, _, _⟩) (v := ?_) rfl (by kernel_rfl) (by kernel_rfl) (by kernel_rfl) (by kernel_rfl) (fun _ _ _ h => h) (Or.inl ⟨by rfl, ?_⟩) hHeld ?_; rotate_left; (focus (intro w; go_simp; first | done | with_reducible rfl)); try simp only [Act.put, List.setIfInBounds_toArray, List.set_cons_zero, List.set_cons_succ])
  (refine wpAnyC_take [10] (i := 9) (oi := ⟨some 6, _, _, _, _, _⟩) (v := ?_) rfl (by kernel_rfl) (by kernel_rfl) (by kernel_rfl) (by kernel_rfl) (fun _ _ _ h => h) (Or.inl ⟨by rfl, ?_⟩) hHeld ?_; rotate_left; (focus (intro w hSw; (skip); go_simp; first | done | with_reducible rfl)); try simp only [Act.put, List.setIfInBounds_toArray, List.set_cons_zero, List.set_cons_succ])
  have hps := HPS.out.ext0 hHeld
  obtain ⟨d0, d1, d2, d3, d4, d5, g0, g1, g2, g3, g4, g5⟩ := box_facts hps.box7
  refine wpAnyC_c (oi := ⟨none, _, _, _, _, _⟩) rfl (by kernel_rfl) (fun K hK => ?_)
  rw [if_pos (by rfl)]
  go_simp
  have hm9 := mod_setCells (fun k => k = b7) wz b7 0 [.int .i64 qn, .slice qa qs qc, .slice va vs vc, .bool qr, .bool qd, .int .i64 qf] rfl
  have hb9 := blk_setCells b7 51 [.int .i64 qn, .slice qa qs qc, .slice va vs vc, .bool qr, .bool qd, .int .i64 qf] 0 wz _ hps.box7 (by simp)
  show K _ (wz.setCells b7 0 [.int .i64 qn, .slice qa qs qc, .slice va vs vc, .bool qr, .bool qd, .int .i64 qf])
  generalize wz.setCells b7 0 [.int .i64 qn, .slice qa qs qc, .slice va vs vc, .bool qr, .bool qd, .int .i64 qf] = w9 at *
  refine hK.out _ _ ?_
  clear hK K
  try simp only [Act.put, List.setIfInBounds_toArray, List.set_cons_zero, List.set_cons_succ]
  (refine wpAny_take (i := 11) (oi := ⟨some 8, _, _, _, _, _⟩) (v := ?_) rfl (by kernel_rfl) (by kernel_rfl) (by kernel_rfl) (fun _ _ _ h => h) (Or.inl ⟨by rfl, ?_⟩) ?_; rotate_left; (focus (intro w; go_simp; first | done | with_reducible rfl)); try simp only [Act.put, List.setIfInBounds_toArray, List.set_cons_zero, List.set_cons_succ])
  refine wpAny_done (by kernel_rfl) ?_ _
  clear d0 d1 d2 d3 d4 d5 g0 g1 g2 g3 g4 g5
  obtain ⟨d0, d1, d2, d3, d4, d5, g0, g1, g2, g3, g4, g5⟩ := box_facts hb9
  go_wp2
  refine bodyPost_ret (v := .tuple #[.pointer (some ⟨p, 0, none⟩), .agg #[.int .i64 qn, .slice qa qs qc, .slice va vs vc, .bool qr, .bool qd, .int .i64 qf], .bool true]) (by simp [results, Try.results24, go_sem, d0, d1, d2, d3, d4, d5]) rfl ⟨_, _, ⟨qn, qS, qW, qr, qd, qf⟩, _, _, rfl, hps.ends (HRA.out.ext hHeld) HQ.out.1 HLN.out hm9⟩

set_option maxRecDepth 100000 in
set_option maxHeartbeats 6400000 in
theorem play_fuse {w0 w : World} {X : Nat → Prop} {p : Nat} {d : D.Dsk} {r : Ref4} {sv wv : Value} (h : Held w0 w X p d) (hr : RefAt w X r sv wv) (hrel : Rel d r) (hlen : R4.len r ≤ 900000) (i n : Int) (da ka : Option Addr) (dn dc kn kc : Nat) (hn : n ≤ 9223372036854775807) :
    Calls Try.prog 24 #[.pointer (some ⟨p, 0, none⟩), rv r sv wv, .agg #[.int .i64 4, .int .i64 i, .int .i64 n, .slice da dn dc, .slice ka kn kc]] w fun e w' => PlayOut w0 w w' X (R4.len r) e := by
  have hswl : r.safe.length + r.wait.length ≤ 900000 := hlen
  have hwait : d.wait.length ≤ 1000000 := by rw [hrel.wait]; omega
  have HREL := Lib.hid hrel
  obtain ⟨sa, sn, sc, hsv⟩ := hr.safe.any
  obtain ⟨wa, wn, wc', hwv⟩ := hr.wait.any
  subst hsv
  subst hwv
  obtain ⟨rn, safe, wait, armed, down, after⟩ := r
  simp only at hswl
  unfold rv
  simp only
  have hx1 : Ext w (((w.alloc (.cells #[.int .i64 rn, .slice sa sn sc, .slice wa wn wc', .bool armed, .bool down, .int .i64 after] 51)).alloc (.cells #[.int .i64 4, .int .i64 i, .int .i64 n, .slice da dn dc, .slice ka kn kc] 56)).alloc (.cells #[.int .i64 0, .slice none 0 0, .slice none 0 0, .bool false, .bool false, .int .i64 0] 51)) := ((Ext.of_alloc w _).alloc _).alloc _
  have hPS := PS.start h #[.int .i64 rn, .slice sa sn sc, .slice wa wn wc', .bool armed, .bool down, .int .i64 after] #[.int .i64 4, .int .i64 i, .int .i64 n, .slice da dn dc, .slice ka kn kc] #[.int .i64 0, .slice none 0 0, .slice none 0 0, .bool false, .bool false, .int .i64 0]
  have hRA := hr.all hx1
  clear h hr hrel
  go_enter Try.func24, Try.ntmps24
  go_upto_region 1 with (fail)
  generalize ((w.alloc (.cells #[.int .i64 rn, .slice sa sn sc, .slice wa wn wc', .bool armed, .bool down, .int .i64 after] 51)).alloc (.cells #[.int .i64 4, .int .i64 i, .int .i64 n, .slice da dn dc, .slice ka kn kc] 56)).alloc (.cells #[.int .i64 0, .slice none 0 0, .slice none 0 0, .bool false, .bool false, .int .i64 0] 51) = w1 at *
  generalize New X w w1 = Y at *
  generalize w.heap.size + 1 + 1 = b7 at *
  generalize w.heap.size + 1 = b5 at *
  generalize w.heap.size = b4 at *
  have HX1 := Lib.hid hx1
  have HPS := Lib.hid hPS
  have HRA := Lib.hid hRA
  have n45 := hPS.n45
  have n47 := hPS.n47
  have n57 := hPS.n57
  obtain ⟨c0, c1, c2, c3, c4, c5, _⟩ := box_facts hPS.box4
  obtain ⟨e0, e1, e2, e3, e4⟩ := box5_facts hPS.box5
  clear hx1 hPS hRA
  have hC := ref_fuse ⟨rn, safe, wait, armed, down, after⟩ Y (.slice sa sn sc) (.slice wa wn wc') n w1 HRA.out
  unfold rv at hC
  simp only at hC
  have HQ := Lib.hid (HREL.out.fuse n)
  have HLN := Lib.hid (Nat.le_trans (fuse_len ⟨rn, safe, wait, armed, down, after⟩ n) (Nat.le_succ _))
  generalize R4.fuse ⟨rn, safe, wait, armed, down, after⟩ n = RES at *
  obtain ⟨⟨qn, qS, qW, qr, qd, qf⟩, qk⟩ := RES
  simp only at hC HQ HLN
  have HC := Lib.hid hC
  clear hC
  go_wp2_with fail
  refine HC.out.mono ?_
  clear HC
  rintro e w2 ⟨sv', wv', rfl, hra, hx2⟩
  unfold rv
  simp only
  have hPSn := HPS.out.ext hx2
  generalize New Y w1 w2 = Y2 at *
  clear HPS HRA
  have HPS := Lib.hid hPSn
  have HRA := Lib.hid hra
  clear hPSn hra hx2
  obtain ⟨qa, qs, qc, hsv⟩ := HRA.out.safe.any
  obtain ⟨va, vs, vc, hwv⟩ := HRA.out.wait.any
  subst hsv
  subst hwv
  clear c0 c1 c2 c3 c4 c5 e0 e1 e2 e3 e4
  obtain ⟨c0, c1, c2, c3, c4, c5, _⟩ := box_facts HPS.out.box4
  obtain ⟨e0, e1, e2, e3, e4⟩ := box5_facts HPS.out.box5
  go_wp2_with (first
    | ((with_reducible show wpList _ _ _ (⟨none, Op.store _ (Operand.tmp 4) _, _, _, _, _⟩ :: _) _ _); refine wpl_store_all _ rfl 51 _ _ rfl b4 51 [_, _, _, _, _, _] HPS.out.box4 rfl [.int .i64 qn, .slice qa qs qc, .slice va vs vc, .bool qr, .bool qd, .int .i64 qf] rfl rfl size_d4 (by simp [Value.oneCell']) ?_; intro w3 hbn hmn hszn; have hPSn := HPS.out.store hmn hbn; have hRAn := HRA.out.store HPS.out.box4 hmn; clear HPS HRA; have HPS := Lib.hid hPSn; have HRA := Lib.hid hRAn; have HMN := Lib.hid hmn; clear hPSn hRAn hmn hbn hszn; clear c0 c1 c2 c3 c4 c5 e0 e1 e2 e3 e4; obtain ⟨c0, c1, c2, c3, c4, c5, _⟩ := box_facts HPS.out.box4; obtain ⟨e0, e1, e2, e3, e4⟩ := box5_facts HPS.out.box5)
    | fail)
  refine (held_fuse HPS.out.held n hn).mono ?_
  rintro e w4 ⟨rfl, hstep⟩
  rw [HQ.out.2]
  have hPSn := HPS.out.step hstep
  have hRAn := HRA.out.keeps hstep.2
  clear HPS HRA
  have HPS := Lib.hid hPSn
  have HRA := Lib.hid hRAn
  clear hPSn hRAn hstep
  clear c0 c1 c2 c3 c4 c5 e0 e1 e2 e3 e4
  obtain ⟨c0, c1, c2, c3, c4, c5, _⟩ := box_facts HPS.out.box4
  obtain ⟨e0, e1, e2, e3, e4⟩ := box5_facts HPS.out.box5
  have hHeld := Ext.of_drew w4
  go_wp2_with fail
  refine wp_region_C (fun w' => Ext w4 w') 10 (by kernel_rfl) ?_
  generalize w4.drew = wz at *
  (refine wpAnyC_take [10] (i := 0) (oi := ⟨some 130, _, _, _, _, _⟩) (v := ?_) rfl (by kernel_rfl) (by kernel_rfl) (by kernel_rfl) (by kernel_rfl) (fun _ _ _ h => h) (Or.inl ⟨by rfl, ?_⟩) hHeld ?_; rotate_left; (focus (intro w hSw; (skip); go_simp; first | done | with_reducible rfl)); try simp only [Act.put, List.setIfInBounds_toArray, List.set_cons_zero, List.set_cons_succ])
  (refine wpAnyC_take [10] (i := 1) (oi := ⟨some 131, _, _, _, _, _⟩) (v := ?_) rfl (by kernel_rfl) (by kernel_rfl) (by kernel_rfl) (by kernel_rfl) (fun _ _ _ h => h) (Or.inl ⟨by rfl, ?_⟩) hHeld ?_; rotate_left; (focus (intro w hSw; (have q0 := hSw.cell c0; have q1 := hSw.cell c1; have q2 := hSw.cell c2; have q3 := hSw.cell c3; have q4 := hSw.cell c4; have q5 := hSw.cell c5); go_simp; first | done | with_reducible rfl)); try simp only [Act.put, List.setIfInBounds_toArray, List.set_cons_zero, List.set_cons_succ])
  (refine wpAnyC_take [3, 4, 9, 10] (i := 2) (oi := ⟨some 132, _, _, _, _, _⟩) (v := ?_) rfl (by kernel_rfl) (by kernel_rfl) (by kernel_rfl) (by kernel_rfl) (fun _ _ _ h => h) (Or.inl ⟨by rfl, ?_⟩) hHeld ?_; rotate_left; (focus (intro w hSw; (skip); go_simp; first | done | with_reducible rfl)); try simp only [Act.put, List.setIfInBounds_toArray, List.set_cons_zero, List.set_cons_succ])
  (refine wpAnyC_take [4, 9, 10] (i := 3) (oi := ⟨some 133, _, _, _, _, _⟩) (v := ?_) rfl (by kernel_rfl) (by kernel_rfl) (by kernel_rfl) (by kernel_rfl) (fun _ _ _ h => h) (Or.inl ⟨by rfl, ?_⟩) hHeld ?_; rotate_left; (focus (intro w hSw; (skip); go_simp; first | done | with_reducible rfl)); try simp only [Act.put, List.setIfInBounds_toArray, List.set_cons_zero, List.set_cons_succ])
  (refine wpAnyC_take [9, 10] (i := 4) (oi := ⟨some 134, _, _, _, _, _⟩) (v := ?_) rfl (by kernel_rfl) (by kernel_rfl) (by kernel_rfl) (by kernel_rfl) (fun _ _ _ h => h) (Or.inl ⟨by rfl, ?_⟩) hHeld ?_; rotate_left; (focus (intro w hSw; (skip); go_simp; first | done | with_reducible rfl)); try simp only [Act.put, List.setIfInBounds_toArray, List.set_cons_zero, List.set_cons_succ])
  (refine wpAnyC_pure (i := 5) (oi := ⟨some 135, _, _, _, _, _⟩) (v := ?_) rfl (by kernel_rfl) (by kernel_rfl) (by kernel_rfl) (by kernel_rfl) (fun _ _ _ h => h) (Or.inl ⟨by rfl, ?_⟩) hHeld ?_; rotate_left; (focus (intro w; go_simp; first | done | with_reducible rfl)); try simp only [Act.put, List.setIfInBounds_toArray, List.set_cons_zero, List.set_cons_succ])
  (refine wpAnyC_pure (i := 6) (oi := ⟨some 136, _, _, _, _, _⟩) (v := ?_) rfl (by kernel_rfl) (by kernel_rfl) (by kernel_rfl) (by kernel_rfl) (fun _ _ _ h => h) (Or.inl ⟨by rfl, ?_⟩) hHeld ?_; rotate_left; (focus (intro w; go_simp; first | done | with_reducible rfl)); try simp only [Act.put, List.setIfInBounds_toArray, List.set_cons_zero, List.set_cons_succ])
  (refine wpAnyC_pure (i := 7) (oi := ⟨some 137, _, _, _, _, _⟩) (v := ?_) rfl (by kernel_rfl) (by kernel_rfl) (by kernel_rfl) (by kernel_rfl) (fun _ _ _ h => h) (Or.inl ⟨by rfl, ?_⟩) hHeld ?_; rotate_left; (focus (intro w; go_simp; first | done | with_reducible rfl)); try simp only [Act.put, List.setIfInBounds_toArray, List.set_cons_zero, List.set_cons_succ])
  (refine wpAnyC_pure (i := 8) (oi := ⟨some 138, _, _, _, _, _⟩) (v := ?_) rfl (by kernel_rfl) (by kernel_rfl) (by kernel_rfl) (by kernel_rfl) (fun _ _ _ h => h) (Or.inl ⟨by rfl, ?_⟩) hHeld ?_; rotate_left; (focus (intro w; go_simp; first | done | with_reducible rfl)); try simp only [Act.put, List.setIfInBounds_toArray, List.set_cons_zero, List.set_cons_succ])
  (refine wpAnyC_take [10] (i := 9) (oi := ⟨some 6, _, _, _, _, _⟩) (v := ?_) rfl (by kernel_rfl) (by kernel_rfl) (by kernel_rfl) (by kernel_rfl) (fun _ _ _ h => h) (Or.inl ⟨by rfl, ?_⟩) hHeld ?_; rotate_left; (focus (intro w hSw; (skip); go_simp; first | done | with_reducible rfl)); try simp only [Act.put, List.setIfInBounds_toArray, List.set_cons_zero, List.set_cons_succ])
  have hps := HPS.out.ext0 hHeld
  obtain ⟨d0, d1, d2, d3, d4, d5, g0, g1, g2, g3, g4, g5⟩ := box_facts hps.box7
  refine wpAnyC_c (oi := ⟨none, _, _, _, _, _⟩) rfl (by kernel_rfl) (fun K hK => ?_)
  rw [if_pos (by rfl)]
  go_simp
  have hm9 := mod_setCells (fun k => k = b7) wz b7 0 [.int .i64 qn, .slice qa qs qc, .slice va vs vc, .bool qr, .bool qd, .int .i64 qf] rfl
  have hb9 := blk_setCells b7 51 [.int .i64 qn, .slice qa qs qc, .slice va vs vc, .bool qr, .bool qd, .int .i64 qf] 0 wz _ hps.box7 (by simp)
  show K _ (wz.setCells b7 0 [.int .i64 qn, .slice qa qs qc, .slice va vs vc, .bool qr, .bool qd, .int .i64 qf])
  generalize wz.setCells b7 0 [.int .i64 qn, .slice qa qs qc, .slice va vs vc, .bool qr, .bool qd, .int .i64 qf] = w9 at *
  refine hK.out _ _ ?_
  clear hK K
  try simp only [Act.put, List.setIfInBounds_toArray, List.set_cons_zero, List.set_cons_succ]
  (refine wpAny_take (i := 11) (oi := ⟨some 8, _, _, _, _, _⟩) (v := ?_) rfl (by kernel_rfl) (by kernel_rfl) (by kernel_rfl) (fun _ _ _ h => h) (Or.inl ⟨by rfl, ?_⟩) ?_; rotate_left; (focus (intro w; go_simp; first | done | with_reducible rfl)); try simp only [Act.put, List.setIfInBounds_toArray, List.set_cons_zero, List.set_cons_succ])
  refine wpAny_done (by kernel_rfl) ?_ _
  clear d0 d1 d2 d3 d4 d5 g0 g1 g2 g3 g4 g5
  obtain ⟨d0, d1, d2, d3, d4, d5, g0, g1, g2, g3, g4, g5⟩ := box_facts hb9
  go_wp2
  refine bodyPost_ret (v := .tuple #[.pointer (some ⟨p, 0, none⟩), .agg #[.int .i64 qn, .slice qa qs qc, .slice va vs vc, .bool qr, .bool qd, .int .i64 qf], .bool true]) (by simp [results, Try.results24, go_sem, d0, d1, d2, d3, d4, d5]) rfl ⟨_, _, ⟨qn, qS, qW, qr, qd, qf⟩, _, _, rfl, hps.ends (HRA.out.ext hHeld) HQ.out.1 HLN.out hm9⟩

set_option maxRecDepth 100000 in
set_option maxHeartbeats 6400000 in
theorem play_cut {w0 w : World} {X : Nat → Prop} {p : Nat} {d : D.Dsk} {r : Ref4} {sv wv : Value} (h : Held w0 w X p d) (hr : RefAt w X r sv wv) (hrel : Rel d r) (hlen : R4.len r ≤ 900000) (i n : Int) (da ka : Option Addr) (dn dc kn kc : Nat) :
    Calls Try.prog 24 #[.pointer (some ⟨p, 0, none⟩), rv r sv wv, .agg #[.int .i64 5, .int .i64 i, .int .i64 n, .slice da dn dc, .slice ka kn kc]] w fun e w' => PlayOut w0 w w' X (R4.len r) e := by
  have hswl : r.safe.length + r.wait.length ≤ 900000 := hlen
  have hwait : d.wait.length ≤ 1000000 := by rw [hrel.wait]; omega
  have HREL := Lib.hid hrel
  obtain ⟨sa, sn, sc, hsv⟩ := hr.safe.any
  obtain ⟨wa, wn, wc', hwv⟩ := hr.wait.any
  subst hsv
  subst hwv
  obtain ⟨rn, safe, wait, armed, down, after⟩ := r
  simp only at hswl
  unfold rv
  simp only
  have hx1 : Ext w (((w.alloc (.cells #[.int .i64 rn, .slice sa sn sc, .slice wa wn wc', .bool armed, .bool down, .int .i64 after] 51)).alloc (.cells #[.int .i64 5, .int .i64 i, .int .i64 n, .slice da dn dc, .slice ka kn kc] 56)).alloc (.cells #[.int .i64 0, .slice none 0 0, .slice none 0 0, .bool false, .bool false, .int .i64 0] 51)) := ((Ext.of_alloc w _).alloc _).alloc _
  have hPS := PS.start h #[.int .i64 rn, .slice sa sn sc, .slice wa wn wc', .bool armed, .bool down, .int .i64 after] #[.int .i64 5, .int .i64 i, .int .i64 n, .slice da dn dc, .slice ka kn kc] #[.int .i64 0, .slice none 0 0, .slice none 0 0, .bool false, .bool false, .int .i64 0]
  have hRA := hr.all hx1
  clear h hr hrel
  go_enter Try.func24, Try.ntmps24
  go_upto_region 1 with (fail)
  generalize ((w.alloc (.cells #[.int .i64 rn, .slice sa sn sc, .slice wa wn wc', .bool armed, .bool down, .int .i64 after] 51)).alloc (.cells #[.int .i64 5, .int .i64 i, .int .i64 n, .slice da dn dc, .slice ka kn kc] 56)).alloc (.cells #[.int .i64 0, .slice none 0 0, .slice none 0 0, .bool false, .bool false, .int .i64 0] 51) = w1 at *
  generalize New X w w1 = Y at *
  generalize w.heap.size + 1 + 1 = b7 at *
  generalize w.heap.size + 1 = b5 at *
  generalize w.heap.size = b4 at *
  have HX1 := Lib.hid hx1
  have HPS := Lib.hid hPS
  have HRA := Lib.hid hRA
  have n45 := hPS.n45
  have n47 := hPS.n47
  have n57 := hPS.n57
  obtain ⟨c0, c1, c2, c3, c4, c5, _⟩ := box_facts hPS.box4
  obtain ⟨e0, e1, e2, e3, e4⟩ := box5_facts hPS.box5
  clear hx1 hPS hRA
  have hC := ref_cut ⟨rn, safe, wait, armed, down, after⟩ Y (.slice sa sn sc) (.slice wa wn wc') w1 HRA.out
  have HQ := Lib.hid HREL.out.cut
  have HLN := Lib.hid (show R4.len (R4.cut ⟨rn, safe, wait, armed, down, after⟩) ≤ R4.len ⟨rn, safe, wait, armed, down, after⟩ + 1 from Nat.le_succ _)
  unfold rv at hC
  try simp only at hC
  generalize R4.cut ⟨rn, safe, wait, armed, down, after⟩ = RES at *
  obtain ⟨qn, qS, qW, qr, qd, qf⟩ := RES
  try simp only at hC
  have HC := Lib.hid hC
  clear hC
  go_wp2_with fail
  refine HC.out.mono ?_
  clear HC
  rintro e w2 ⟨sv', wv', rfl, hra, hx2⟩
  unfold rv
  try simp only
  have hPSn := HPS.out.ext hx2
  generalize New Y w1 w2 = Y2 at *
  clear HPS HRA
  have HPS := Lib.hid hPSn
  have HRA := Lib.hid hra
  clear hPSn hra hx2
  obtain ⟨qa, qs, qc, hsv⟩ := HRA.out.safe.any
  obtain ⟨va, vs, vc, hwv⟩ := HRA.out.wait.any
  subst hsv
  subst hwv
  clear c0 c1 c2 c3 c4 c5 e0 e1 e2 e3 e4
  obtain ⟨c0, c1, c2, c3, c4, c5, _⟩ := box_facts HPS.out.box4
  obtain ⟨e0, e1, e2, e3, e4⟩ := box5_facts HPS.out.box5
  go_wp2_with (first
    | ((with_reducible show wpList _ _ _ (⟨none, Op.store _ (Operand.tmp 4) _, _, _, _, _⟩ :: _) _ _); refine wpl_store_all _ rfl 51 _ _ rfl b4 51 [_, _, _, _, _, _] HPS.out.box4 rfl [.int .i64 qn, .slice qa qs qc, .slice va vs vc, .bool qr, .bool qd, .int .i64 qf] rfl rfl size_d4 (by simp [Value.oneCell']) ?_; intro w3 hbn hmn hszn; have hPSn := HPS.out.store hmn hbn; have hRAn := HRA.out.store HPS.out.box4 hmn; clear HPS HRA; have HPS := Lib.hid hPSn; have HRA := Lib.hid hRAn; have HMN := Lib.hid hmn; clear hPSn hRAn hmn hbn hszn; clear c0 c1 c2 c3 c4 c5 e0 e1 e2 e3 e4; obtain ⟨c0, c1, c2, c3, c4, c5, _⟩ := box_facts HPS.out.box4; obtain ⟨e0, e1, e2, e3, e4⟩ := box5_facts HPS.out.box5)
    | fail)
  refine (held_cut HPS.out.held).mono ?_
  rintro e w4 ⟨rfl, hstep⟩
  have hPSn := HPS.out.step hstep
  have hRAn := HRA.out.keeps hstep.2
  clear HPS HRA
  have HPS := Lib.hid hPSn
  have HRA := Lib.hid hRAn
  clear hPSn hRAn hstep
  clear c0 c1 c2 c3 c4 c5 e0 e1 e2 e3 e4
  obtain ⟨c0, c1, c2, c3, c4, c5, _⟩ := box_facts HPS.out.box4
  obtain ⟨e0, e1, e2, e3, e4⟩ := box5_facts HPS.out.box5
  have hHeld := Ext.of_drew w4
  go_wp2_with fail
  refine wp_region_C (fun w' => Ext w4 w') 10 (by kernel_rfl) ?_
  generalize w4.drew = wz at *
  (refine wpAnyC_take [10] (i := 0) (oi := ⟨some 130, _, _, _, _, _⟩) (v := ?_) rfl (by kernel_rfl) (by kernel_rfl) (by kernel_rfl) (by kernel_rfl) (fun _ _ _ h => h) (Or.inl ⟨by rfl, ?_⟩) hHeld ?_; rotate_left; (focus (intro w hSw; (skip); go_simp; first | done | with_reducible rfl)); try simp only [Act.put, List.setIfInBounds_toArray, List.set_cons_zero, List.set_cons_succ])
  (refine wpAnyC_take [10] (i := 1) (oi := ⟨some 131, _, _, _, _, _⟩) (v := ?_) rfl (by kernel_rfl) (by kernel_rfl) (by kernel_rfl) (by kernel_rfl) (fun _ _ _ h => h) (Or.inl ⟨by rfl, ?_⟩) hHeld ?_; rotate_left; (focus (intro w hSw; (have q0 := hSw.cell c0; have q1 := hSw.cell c1; have q2 := hSw.cell c2; have q3 := hSw.cell c3; have q4 := hSw.cell c4; have q5 := hSw.cell c5); go_simp; first | done | with_reducible rfl)); try simp only [Act.put, List.setIfInBounds_toArray, List.set_cons_zero, List.set_cons_succ])
  (refine wpAnyC_take [3, 4, 9, 10] (i := 2) (oi := ⟨some 132, _, _, _, _, _⟩) (v := ?_) rfl (by kernel_rfl) (by kernel_rfl) (by kernel_rfl) (by kernel_rfl) (fun _ _ _ h => h) (Or.inl ⟨by rfl, ?_⟩) hHeld ?_; rotate_left; (focus (intro w hSw; (skip); go_simp; first | done | with_reducible rfl)); try simp only [Act.put, List.setIfInBounds_toArray, List.set_cons_zero, List.set_cons_succ])
  (refine wpAnyC_take [4, 9, 10] (i := 3) (oi := ⟨some 133, _, _, _, _, _⟩) (v := ?_) rfl (by kernel_rfl) (by kernel_rfl) (by kernel_rfl) (by kernel_rfl) (fun _ _ _ h => h) (Or.inl ⟨by rfl, ?_⟩) hHeld ?_; rotate_left; (focus (intro w hSw; (skip); go_simp; first | done | with_reducible rfl)); try simp only [Act.put, List.setIfInBounds_toArray, List.set_cons_zero, List.set_cons_succ])
  (refine wpAnyC_take [9, 10] (i := 4) (oi := ⟨some 134, _, _, _, _, _⟩) (v := ?_) rfl (by kernel_rfl) (by kernel_rfl) (by kernel_rfl) (by kernel_rfl) (fun _ _ _ h => h) (Or.inl ⟨by rfl, ?_⟩) hHeld ?_; rotate_left; (focus (intro w hSw; (skip); go_simp; first | done | with_reducible rfl)); try simp only [Act.put, List.setIfInBounds_toArray, List.set_cons_zero, List.set_cons_succ])
  (refine wpAnyC_pure (i := 5) (oi := ⟨some 135, _, _, _, _, _⟩) (v := ?_) rfl (by kernel_rfl) (by kernel_rfl) (by kernel_rfl) (by kernel_rfl) (fun _ _ _ h => h) (Or.inl ⟨by rfl, ?_⟩) hHeld ?_; rotate_left; (focus (intro w; go_simp; first | done | with_reducible rfl)); try simp only [Act.put, List.setIfInBounds_toArray, List.set_cons_zero, List.set_cons_succ])
  (refine wpAnyC_pure (i := 6) (oi := ⟨some 136, _, _, _, _, _⟩) (v := ?_) rfl (by kernel_rfl) (by kernel_rfl) (by kernel_rfl) (by kernel_rfl) (fun _ _ _ h => h) (Or.inl ⟨by rfl, ?_⟩) hHeld ?_; rotate_left; (focus (intro w; go_simp; first | done | with_reducible rfl)); try simp only [Act.put, List.setIfInBounds_toArray, List.set_cons_zero, List.set_cons_succ])
  (refine wpAnyC_pure (i := 7) (oi := ⟨some 137, _, _, _, _, _⟩) (v := ?_) rfl (by kernel_rfl) (by kernel_rfl) (by kernel_rfl) (by kernel_rfl) (fun _ _ _ h => h) (Or.inl ⟨by rfl, ?_⟩) hHeld ?_; rotate_left; (focus (intro w; go_simp; first | done | with_reducible rfl)); try simp only [Act.put, List.setIfInBounds_toArray, List.set_cons_zero, List.set_cons_succ])
  (refine wpAnyC_pure (i := 8) (oi := ⟨some 138, _, _, _, _, _⟩) (v := ?_) rfl (by kernel_rfl) (by kernel_rfl) (by kernel_rfl) (by kernel_rfl) (fun _ _ _ h => h) (Or.inl ⟨by rfl, ?_⟩) hHeld ?_; rotate_left; (focus (intro w; go_simp; first | done | with_reducible rfl)); try simp only [Act.put, List.setIfInBounds_toArray, List.set_cons_zero, List.set_cons_succ])
  (refine wpAnyC_take [10] (i := 9) (oi := ⟨some 6, _, _, _, _, _⟩) (v := ?_) rfl (by kernel_rfl) (by kernel_rfl) (by kernel_rfl) (by kernel_rfl) (fun _ _ _ h => h) (Or.inl ⟨by rfl, ?_⟩) hHeld ?_; rotate_left; (focus (intro w hSw; (skip); go_simp; first | done | with_reducible rfl)); try simp only [Act.put, List.setIfInBounds_toArray, List.set_cons_zero, List.set_cons_succ])
  have hps := HPS.out.ext0 hHeld
  obtain ⟨d0, d1, d2, d3, d4, d5, g0, g1, g2, g3, g4, g5⟩ := box_facts hps.box7
  refine wpAnyC_c (oi := ⟨none, _, _, _, _, _⟩) rfl (by kernel_rfl) (fun K hK => ?_)
  rw [if_pos (by rfl)]
  go_simp
  have hm9 := mod_setCells (fun k => k = b7) wz b7 0 [.int .i64 qn, .slice qa qs qc, .slice va vs vc, .bool qr, .bool qd, .int .i64 qf] rfl
  have hb9 := blk_setCells b7 51 [.int .i64 qn, .slice qa qs qc, .slice va vs vc, .bool qr, .bool qd, .int .i64 qf] 0 wz _ hps.box7 (by simp)
  show K _ (wz.setCells b7 0 [.int .i64 qn, .slice qa qs qc, .slice va vs vc, .bool qr, .bool qd, .int .i64 qf])
  generalize wz.setCells b7 0 [.int .i64 qn, .slice qa qs qc, .slice va vs vc, .bool qr, .bool qd, .int .i64 qf] = w9 at *
  refine hK.out _ _ ?_
  clear hK K
  try simp only [Act.put, List.setIfInBounds_toArray, List.set_cons_zero, List.set_cons_succ]
  (refine wpAny_take (i := 11) (oi := ⟨some 8, _, _, _, _, _⟩) (v := ?_) rfl (by kernel_rfl) (by kernel_rfl) (by kernel_rfl) (fun _ _ _ h => h) (Or.inl ⟨by rfl, ?_⟩) ?_; rotate_left; (focus (intro w; go_simp; first | done | with_reducible rfl)); try simp only [Act.put, List.setIfInBounds_toArray, List.set_cons_zero, List.set_cons_succ])
  refine wpAny_done (by kernel_rfl) ?_ _
  clear d0 d1 d2 d3 d4 d5 g0 g1 g2 g3 g4 g5
  obtain ⟨d0, d1, d2, d3, d4, d5, g0, g1, g2, g3, g4, g5⟩ := box_facts hb9
  go_wp2
  refine bodyPost_ret (v := .tuple #[.pointer (some ⟨p, 0, none⟩), .agg #[.int .i64 qn, .slice qa qs qc, .slice va vs vc, .bool qr, .bool qd, .int .i64 qf], .bool true]) (by simp [results, Try.results24, go_sem, d0, d1, d2, d3, d4, d5]) rfl ⟨_, _, ⟨qn, qS, qW, qr, qd, qf⟩, _, _, rfl, hps.ends (HRA.out.ext hHeld) HQ.out HLN.out hm9⟩

set_option maxRecDepth 100000 in
set_option maxHeartbeats 6400000 in
theorem play_restart {w0 w : World} {X : Nat → Prop} {p : Nat} {d : D.Dsk} {r : Ref4} {sv wv : Value} (h : Held w0 w X p d) (hr : RefAt w X r sv wv) (hrel : Rel d r) (hlen : R4.len r ≤ 900000) (i n : Int) (da ka : Option Addr) (dn dc kn kc : Nat) (keep : List Bool) (hk : Reads w (.slice ka kn kc) (keep.map Value.bool)) (hkX : keep = [] ∨ ∀ k, (Value.slice ka kn kc).ownBlock = some k → X k) (hkl : keep.length ≤ 140737488351232) :
    Calls Try.prog 24 #[.pointer (some ⟨p, 0, none⟩), rv r sv wv, .agg #[.int .i64 6, .int .i64 i, .int .i64 n, .slice da dn dc, .slice ka kn kc]] w fun e w' => PlayOut w0 w w' X (R4.len r) e := by
  obtain ⟨ib, hib, hzb0, hzb1, hzb2⟩ := info_bool_parts
  have HK := Lib.hid hk
  have HKX := Lib.hid hkX
  clear hk hkX
  have hswl : r.safe.length + r.wait.length ≤ 900000 := hlen
  have hwait : d.wait.length ≤ 1000000 := by rw [hrel.wait]; omega
  have HREL := Lib.hid hrel
  obtain ⟨sa, sn, sc, hsv⟩ := hr.safe.any
  obtain ⟨wa, wn, wc', hwv⟩ := hr.wait.any
  subst hsv
  subst hwv
  obtain ⟨rn, safe, wait, armed, down, after⟩ := r
  simp only at hswl
  unfold rv
  simp only
  have hx1 : Ext w (((w.alloc (.cells #[.int .i64 rn, .slice sa sn sc, .slice wa wn wc', .bool armed, .bool down, .int .i64 after] 51)).alloc (.cells #[.int .i64 6, .int .i64 i, .int .i64 n, .slice da dn dc, .slice ka kn kc] 56)).alloc (.cells #[.int .i64 0, .slice none 0 0, .slice none 0 0, .bool false, .bool false, .int .i64 0] 51)) := ((Ext.of_alloc w _).alloc _).alloc _
  have hPS := PS.start h #[.int .i64 rn, .slice sa sn sc, .slice wa wn wc', .bool armed, .bool down, .int .i64 after] #[.int .i64 6, .int .i64 i, .int .i64 n, .slice da dn dc, .slice ka kn kc] #[.int .i64 0, .slice none 0 0, .slice none 0 0, .bool false, .bool false, .int .i64 0]
  have hRA := hr.all hx1
  clear h hr hrel
  go_enter Try.func24, Try.ntmps24
  go_upto_region 1 with (fail)
  generalize ((w.alloc (.cells #[.int .i64 rn, .slice sa sn sc, .slice wa wn wc', .bool armed, .bool down, .int .i64 after] 51)).alloc (.cells #[.int .i64 6, .int .i64 i, .int .i64 n, .slice da dn dc, .slice ka kn kc] 56)).alloc (.cells #[.int .i64 0, .slice none 0 0, .slice none 0 0, .bool false, .bool false, .int .i64 0] 51) = w1 at *
  generalize New X w w1 = Y at *
  generalize w.heap.size + 1 + 1 = b7 at *
  generalize w.heap.size + 1 = b5 at *
  generalize w.heap.size = b4 at *
  have HX1 := Lib.hid hx1
  have HPS := Lib.hid hPS
  have HRA := Lib.hid hRA
  have n45 := hPS.n45
  have n47 := hPS.n47
  have n57 := hPS.n57
  obtain ⟨c0, c1, c2, c3, c4, c5, _⟩ := box_facts hPS.box4
  obtain ⟨e0, e1, e2, e3, e4⟩ := box5_facts hPS.box5
  clear hx1 hPS hRA
  have hkx : Hid (∀ v, Keeps X w v → Reads v (.slice ka kn kc) (keep.map Value.bool)) := fun v hv => Reads.mod_or HK.out hv (HKX.out.imp (fun e => by rw [e]; rfl) (fun h k e hn => hn (h k e)))
  have hC := ref_restart ⟨rn, safe, wait, armed, down, after⟩ Y (.slice sa sn sc) (.slice wa wn wc') (.slice ka kn kc) keep w1 HRA.out (hkx.out _ HPS.out.kp) (show safe.length + wait.length ≤ 1000000 by omega)
  have HQ := Lib.hid (HREL.out.restart keep)
  have HLN := Lib.hid (Nat.le_trans (restart_len ⟨rn, safe, wait, armed, down, after⟩ keep) (Nat.le_succ _))
  unfold rv at hC
  try simp only at hC
  generalize R4.restart ⟨rn, safe, wait, armed, down, after⟩ keep = RES at *
  obtain ⟨qn, qS, qW, qr, qd, qf⟩ := RES
  try simp only at hC
  have HC := Lib.hid hC
  clear hC
  go_wp2_with fail
  refine HC.out.mono ?_
  clear HC
  rintro e w2 ⟨sv', wv', rfl, hra, hx2⟩
  unfold rv
  try simp only
  have hPSn := HPS.out.ext hx2
  generalize New Y w1 w2 = Y2 at *
  clear HPS HRA
  have HPS := Lib.hid hPSn
  have HRA := Lib.hid hra
  clear hPSn hra hx2
  obtain ⟨qa, qs, qc, hsv⟩ := HRA.out.safe.any
  obtain ⟨va, vs, vc, hwv⟩ := HRA.out.wait.any
  subst hsv
  subst hwv
  clear c0 c1 c2 c3 c4 c5 e0 e1 e2 e3 e4
  obtain ⟨c0, c1, c2, c3, c4, c5, _⟩ := box_facts HPS.out.box4
  obtain ⟨e0, e1, e2, e3, e4⟩ := box5_facts HPS.out.box5
  go_wp2_with (first
    | ((with_reducible show wpList _ _ _ (⟨none, Op.store _ (Operand.tmp 4) _, _, _, _, _⟩ :: _) _ _); refine wpl_store_all _ rfl 51 _ _ rfl b4 51 [_, _, _, _, _, _] HPS.out.box4 rfl [.int .i64 qn, .slice qa qs qc, .slice va vs vc, .bool qr, .bool qd, .int .i64 qf] rfl rfl size_d4 (by simp [Value.oneCell']) ?_; intro w3 hbn hmn hszn; have hPSn := HPS.out.store hmn hbn; have hRAn := HRA.out.store HPS.out.box4 hmn; clear HPS HRA; have HPS := Lib.hid hPSn; have HRA := Lib.hid hRAn; have HMN := Lib.hid hmn; clear hPSn hRAn hmn hbn hszn; clear c0 c1 c2 c3 c4 c5 e0 e1 e2 e3 e4; obtain ⟨c0, c1, c2, c3, c4, c5, _⟩ := box_facts HPS.out.box4; obtain ⟨e0, e1, e2, e3, e4⟩ := box5_facts HPS.out.box5; have e4a := (Ext.of_alloc w3 (.cells #[] 4)).cell e4)
    | ((with_reducible show wpList _ _ _ (⟨some 100, _, _, _, _, _⟩ :: _) _ _); refine wpl_append _ rfl _ _ 24 rfl w3.heap.size 4 ib (.bool false) 1 Try.underlying24 hib hzb0 hzb1 hzb2 rfl (.slice (some ⟨w3.heap.size, 0, none⟩) 0 0) 0 [] (by rfl) (own_empty w3 w3.heap.size 4 (Nat.le_refl _)) (.slice ka kn kc) (keep.map Value.bool) (by rfl) ((hkx.out w3 HPS.out.kp).ext (Ext.of_alloc w3 _)) (by simp [maxLen]; omega) (by simp; omega) (Ext.of_alloc w3 _).size ?_; intro v1 w4 hown4 hgrow4; have HX4 := Lib.hid ((Ext.of_alloc w3 (.cells #[] 4)).grown hgrow4 (fun k hk => by simp [Value.ownBlock] at hk; omega)); have HO4 := Lib.hid hown4; clear hown4 hgrow4)
    | fail)
  clear e4a
  have hrd : Reads w4 v1 (keep.map Value.bool) := Reads.of_own HO4.out (fun u hu => by
    obtain ⟨_, _, rfl⟩ := List.mem_map.1 (show u ∈ keep.map Value.bool from hu)
    rfl)
  have hps4 := HPS.out.ext0 HX4.out
  have hra4 := HRA.out.ext HX4.out
  refine (held_restart HPS.out.held HX4.out v1 keep hrd (.inr fun q hq => .inr (HO4.out.lt q hq))).mono ?_
  rintro e w5 ⟨rfl, hstep⟩
  have hPSn := hps4.step hstep
  have hRAn := hra4.keeps hstep.2
  clear HPS HRA hps4 hra4
  have HPS := Lib.hid hPSn
  have HRA := Lib.hid hRAn
  clear hPSn hRAn hstep hrd
  clear c0 c1 c2 c3 c4 c5 e0 e1 e2 e3 e4
  obtain ⟨c0, c1, c2, c3, c4, c5, _⟩ := box_facts HPS.out.box4
  obtain ⟨e0, e1, e2, e3, e4⟩ := box5_facts HPS.out.box5
  have hHeld := Ext.of_drew w5
  go_wp2_with fail
  refine wp_region_C (fun w' => Ext w5 w') 10 (by kernel_rfl) ?_
  generalize w5.drew = wz at *
  (refine wpAnyC_take [10] (i := 0) (oi := ⟨some 130, _, _, _, _, _⟩) (v := ?_) rfl (by kernel_rfl) (by kernel_rfl) (by kernel_rfl) (by kernel_rfl) (fun _ _ _ h => h) (Or.inl ⟨by rfl, ?_⟩) hHeld ?_; rotate_left; (focus (intro w hSw; (skip); go_simp; first | done | with_reducible rfl)); try simp only [Act.put, List.setIfInBounds_toArray, List.set_cons_zero, List.set_cons_succ])
  (refine wpAnyC_take [10] (i := 1) (oi := ⟨some 131, _, _, _, _, _⟩) (v := ?_) rfl (by kernel_rfl) (by kernel_rfl) (by kernel_rfl) (by kernel_rfl) (fun _ _ _ h => h) (Or.inl ⟨by rfl, ?_⟩) hHeld ?_; rotate_left; (focus (intro w hSw; (have q0 := hSw.cell c0; have q1 := hSw.cell c1; have q2 := hSw.cell c2; have q3 := hSw.cell c3; have q4 := hSw.cell c4; have q5 := hSw.cell c5); go_simp; first | done | with_reducible rfl)); try simp only [Act.put, List.setIfInBounds_toArray, List.set_cons_zero, List.set_cons_succ])
  (refine wpAnyC_take [3, 4, 9, 10] (i := 2) (oi := ⟨some 132, _, _, _, _, _⟩) (v := ?_) rfl (by kernel_rfl) (by kernel_rfl) (by kernel_rfl) (by kernel_rfl) (fun _ _ _ h => h) (Or.inl ⟨by rfl, ?_⟩) hHeld ?_; rotate_left; (focus (intro w hSw; (skip); go_simp; first | done | with_reducible rfl)); try simp only [Act.put, List.setIfInBounds_toArray, List.set_cons_zero, List.set_cons_succ])
  (refine wpAnyC_take [4, 9, 10] (i := 3) (oi := ⟨some 133, _, _, _, _, _⟩) (v := ?_) rfl (by kernel_rfl) (by kernel_rfl) (by kernel_rfl) (by kernel_rfl) (fun _ _ _ h => h) (Or.inl ⟨by rfl, ?_⟩) hHeld ?_; rotate_left; (focus (intro w hSw; (skip); go_simp; first | done | with_reducible rfl)); try simp only [Act.put, List.setIfInBounds_toArray, List.set_cons_zero, List.set_cons_succ])
  (refine wpAnyC_take [9, 10] (i := 4) (oi := ⟨some 134, _, _, _, _, _⟩) (v := ?_) rfl (by kernel_rfl) (by kernel_rfl) (by kernel_rfl) (by kernel_rfl) (fun _ _ _ h => h) (Or.inl ⟨by rfl, ?_⟩) hHeld ?_; rotate_left; (focus (intro w hSw; (skip); go_simp; first | done | with_reducible rfl)); try simp only [Act.put, List.setIfInBounds_toArray, List.set_cons_zero, List.set_cons_succ])
  (refine wpAnyC_pure (i := 5) (oi := ⟨some 135, _, _, _, _, _⟩) (v := ?_) rfl (by kernel_rfl) (by kernel_rfl) (by kernel_rfl) (by kernel_rfl) (fun _ _ _ h => h) (Or.inl ⟨by rfl, ?_⟩) hHeld ?_; rotate_left; (focus (intro w; go_simp; first | done | with_reducible rfl)); try simp only [Act.put, List.setIfInBounds_toArray, List.set_cons_zero, List.set_cons_succ])
  (refine wpAnyC_pure (i := 6) (oi := ⟨some 136, _, _, _, _, _⟩) (v := ?_) rfl (by kernel_rfl) (by kernel_rfl) (by kernel_rfl) (by kernel_rfl) (fun _ _ _ h => h) (Or.inl ⟨by rfl, ?_⟩) hHeld ?_; rotate_left; (focus (intro w; go_simp; first | done | with_reducible rfl)); try simp only [Act.put, List.setIfInBounds_toArray, List.set_cons_zero, List.set_cons_succ])
  (refine wpAnyC_pure (i := 7) (oi := ⟨some 137, _, _, _, _, _⟩) (v := ?_) rfl (by kernel_rfl) (by kernel_rfl) (by kernel_rfl) (by kernel_rfl) (fun _ _ _ h => h) (Or.inl ⟨by rfl, ?_⟩) hHeld ?_; rotate_left; (focus (intro w; go_simp; first | done | with_reducible rfl)); try simp only [Act.put, List.setIfInBounds_toArray, List.set_cons_zero, List.set_cons_succ])
  (refine wpAnyC_pure (i := 8) (oi := ⟨some 138, _, _, _, _, _⟩) (v := ?_) rfl (by kernel_rfl) (by kernel_rfl) (by kernel_rfl) (by kernel_rfl) (fun _ _ _ h => h) (Or.inl ⟨by rfl, ?_⟩) hHeld ?_; rotate_left; (focus (intro w; go_simp; first | done | with_reducible rfl)); try simp only [Act.put, List.setIfInBounds_toArray, List.set_cons_zero, List.set_cons_succ])
  (refine wpAnyC_take [10] (i := 9) (oi := ⟨some 6, _, _, _, _, _⟩) (v := ?_) rfl (by kernel_rfl) (by kernel_rfl) (by kernel_rfl) (by kernel_rfl) (fun _ _ _ h => h) (Or.inl ⟨by rfl, ?_⟩) hHeld ?_; rotate_left; (focus (intro w hSw; (skip); go_simp; first | done | with_reducible rfl)); try simp only [Act.put, List.setIfInBounds_toArray, List.set_cons_zero, List.set_cons_succ])
  have hps := HPS.out.ext0 hHeld
  obtain ⟨d0, d1, d2, d3, d4, d5, g0, g1, g2, g3, g4, g5⟩ := box_facts hps.box7
  refine wpAnyC_c (oi := ⟨none, _, _, _, _, _⟩) rfl (by kernel_rfl) (fun K hK => ?_)
  rw [if_pos (by rfl)]
  go_simp
  have hm9 := mod_setCells (fun k => k = b7) wz b7 0 [.int .i64 qn, .slice qa qs qc, .slice va vs vc, .bool qr, .bool qd, .int .i64 qf] rfl
  have hb9 := blk_setCells b7 51 [.int .i64 qn, .slice qa qs qc, .slice va vs vc, .bool qr, .bool qd, .int .i64 qf] 0 wz _ hps.box7 (by simp)
  show K _ (wz.setCells b7 0 [.int .i64 qn, .slice qa qs qc, .slice va vs vc, .bool qr, .bool qd, .int .i64 qf])
  generalize wz.setCells b7 0 [.int .i64 qn, .slice qa qs qc, .slice va vs vc, .bool qr, .bool qd, .int .i64 qf] = w9 at *
  refine hK.out _ _ ?_
  clear hK K
  try simp only [Act.put, List.setIfInBounds_toArray, List.set_cons_zero, List.set_cons_succ]
  (refine wpAny_take (i := 11) (oi := ⟨some 8, _, _, _, _, _⟩) (v := ?_) rfl (by kernel_rfl) (by kernel_rfl) (by kernel_rfl) (fun _ _ _ h => h) (Or.inl ⟨by rfl, ?_⟩) ?_; rotate_left; (focus (intro w; go_simp; first | done | with_reducible rfl)); try simp only [Act.put, List.setIfInBounds_toArray, List.set_cons_zero, List.set_cons_succ])
  refine wpAny_done (by kernel_rfl) ?_ _
  clear d0 d1 d2 d3 d4 d5 g0 g1 g2 g3 g4 g5
  obtain ⟨d0, d1, d2, d3, d4, d5, g0, g1, g2, g3, g4, g5⟩ := box_facts hb9
  go_wp2
  refine bodyPost_ret (v := .tuple #[.pointer (some ⟨p, 0, none⟩), .agg #[.int .i64 qn, .slice qa qs qc, .slice va vs vc, .bool qr, .bool qd, .int .i64 qf], .bool true]) (by simp [results, Try.results24, go_sem, d0, d1, d2, d3, d4, d5]) rfl ⟨_, _, ⟨qn, qS, qW, qr, qd, qf⟩, _, _, rfl, hps.ends (HRA.out.ext hHeld) HQ.out HLN.out hm9⟩

set_option maxRecDepth 100000 in
set_option maxHeartbeats 6400000 in
theorem play_reads {w0 w : World} {X : Nat → Prop} {p : Nat} {d : D.Dsk} {r : Ref4} {sv wv : Value} (h : Held w0 w X p d) (hr : RefAt w X r sv wv) (hrel : Rel d r) (hlen : R4.len r ≤ 900000) (i n : Int) (da ka : Option Addr) (dn dc kn kc : Nat) :
    Calls Try.prog 24 #[.pointer (some ⟨p, 0, none⟩), rv r sv wv, .agg #[.int .i64 2, .int .i64 i, .int .i64 n, .slice da dn dc, .slice ka kn kc]] w fun e w' => PlayOut w0 w w' X (R4.len r) e := by
  have hswl : r.safe.length + r.wait.length ≤ 900000 := hlen
  have hwait : d.wait.length ≤ 1000000 := by rw [hrel.wait]; omega
  have HREL := Lib.hid hrel
  obtain ⟨sa, sn, sc, hsv⟩ := hr.safe.any
  obtain ⟨wa, wn, wc', hwv⟩ := hr.wait.any
  subst hsv
  subst hwv
  obtain ⟨rn, safe, wait, armed, down, after⟩ := r
  simp only at hswl
  unfold rv
  simp only
  have hx1 : Ext w (((w.alloc (.cells #[.int .i64 rn, .slice sa sn sc, .slice wa wn wc', .bool armed, .bool down, .int .i64 after] 51)).alloc (.cells #[.int .i64 2, .int .i64 i, .int .i64 n, .slice da dn dc, .slice ka kn kc] 56)).alloc (.cells #[.int .i64 0, .slice none 0 0, .slice none 0 0, .bool false, .bool false, .int .i64 0] 51)) := ((Ext.of_alloc w _).alloc _).alloc _
  have hPS := PS.start h #[.int .i64 rn, .slice sa sn sc, .slice wa wn wc', .bool armed, .bool down, .int .i64 after] #[.int .i64 2, .int .i64 i, .int .i64 n, .slice da dn dc, .slice ka kn kc] #[.int .i64 0, .slice none 0 0, .slice none 0 0, .bool false, .bool false, .int .i64 0]
  have hRA := hr.all hx1
  clear h hr hrel
  go_enter Try.func24, Try.ntmps24
  go_upto_region 1 with (fail)
  generalize ((w.alloc (.cells #[.int .i64 rn, .slice sa sn sc, .slice wa wn wc', .bool armed, .bool down, .int .i64 after] 51)).alloc (.cells #[.int .i64 2, .int .i64 i, .int .i64 n, .slice da dn dc, .slice ka kn kc] 56)).alloc (.cells #[.int .i64 0, .slice none 0 0, .slice none 0 0, .bool false, .bool false, .int .i64 0] 51) = w1 at *
  generalize New X w w1 = Y at *
  generalize w.heap.size + 1 + 1 = b7 at *
  generalize w.heap.size + 1 = b5 at *
  generalize w.heap.size = b4 at *
  have HX1 := Lib.hid hx1
  have HPS := Lib.hid hPS
  have HRA := Lib.hid hRA
  have n45 := hPS.n45
  have n47 := hPS.n47
  have n57 := hPS.n57
  obtain ⟨c0, c1, c2, c3, c4, c5, _⟩ := box_facts hPS.box4
  obtain ⟨e0, e1, e2, e3, e4⟩ := box5_facts hPS.box5
  clear hx1 hPS hRA
  have hHeld := Ext.of_drew w1
  have hC := fun w' (hx : Ext w1 w') => reads4 (HPS.out.held.after_ext hx) (HRA.out.ext hx) HREL.out i
  unfold rv at hC
  simp only at hC
  have HC := Lib.hid hC
  clear hC
  go_wp2_with fail
  refine wp_region_C (fun w' => Ext w1 w') 8 (by kernel_rfl) ?_
  generalize w1.drew = wy at *
  (refine wpAnyC_take [8] (i := 0) (oi := ⟨some 55, _, _, _, _, _⟩) (v := ?_) rfl (by kernel_rfl) (by kernel_rfl) (by kernel_rfl) (by kernel_rfl) (fun _ _ _ h => h) (Or.inl ⟨by rfl, ?_⟩) hHeld ?_; rotate_left; (focus (intro w hSw; (skip); go_simp; first | done | with_reducible rfl)); try simp only [Act.put, List.setIfInBounds_toArray, List.set_cons_zero, List.set_cons_succ])
  (refine wpAnyC_take [8] (i := 1) (oi := ⟨some 56, _, _, _, _, _⟩) (v := ?_) rfl (by kernel_rfl) (by kernel_rfl) (by kernel_rfl) (by kernel_rfl) (fun _ _ _ h => h) (Or.inl ⟨by rfl, ?_⟩) hHeld ?_; rotate_left; (focus (intro w hSw; (have q0 := hSw.cell c0; have q1 := hSw.cell c1; have q2 := hSw.cell c2; have q3 := hSw.cell c3; have q4 := hSw.cell c4; have q5 := hSw.cell c5); go_simp; first | done | with_reducible rfl)); try simp only [Act.put, List.setIfInBounds_toArray, List.set_cons_zero, List.set_cons_succ])
  (refine wpAnyC_take [6, 7, 8] (i := 2) (oi := ⟨some 57, _, _, _, _, _⟩) (v := ?_) rfl (by kernel_rfl) (by kernel_rfl) (by kernel_rfl) (by kernel_rfl) (fun _ _ _ h => h) (Or.inl ⟨by rfl, ?_⟩) hHeld ?_; rotate_left; (focus (intro w hSw; (skip); go_simp; first | done | with_reducible rfl)); try simp only [Act.put, List.setIfInBounds_toArray, List.set_cons_zero, List.set_cons_succ])
  (refine wpAnyC_take [6, 7, 8] (i := 3) (oi := ⟨some 58, _, _, _, _, _⟩) (v := ?_) rfl (by kernel_rfl) (by kernel_rfl) (by kernel_rfl) (by kernel_rfl) (fun _ _ _ h => h) (Or.inl ⟨by rfl, ?_⟩) hHeld ?_; rotate_left; (focus (intro w hSw; (have q0 := hSw.cell c0; have q1 := hSw.cell c1; have q2 := hSw.cell c2; have q3 := hSw.cell c3; have q4 := hSw.cell c4; have q5 := hSw.cell c5); go_simp; first | done | with_reducible rfl)); try simp only [Act.put, List.setIfInBounds_toArray, List.set_cons_zero, List.set_cons_succ])
  (refine wpAnyC_take [5, 6, 7, 8] (i := 4) (oi := ⟨some 59, _, _, _, _, _⟩) (v := ?_) rfl (by kernel_rfl) (by kernel_rfl) (by kernel_rfl) (by kernel_rfl) (fun _ _ _ h => h) (Or.inl ⟨by rfl, ?_⟩) hHeld ?_; rotate_left; (focus (intro w hSw; (skip); go_simp; first | done | with_reducible rfl)); try simp only [Act.put, List.setIfInBounds_toArray, List.set_cons_zero, List.set_cons_succ])
  (refine wpAnyC_take [6, 7, 8] (i := 5) (oi := ⟨some 60, _, _, _, _, _⟩) (v := ?_) rfl (by kernel_rfl) (by kernel_rfl) (by kernel_rfl) (by kernel_rfl) (fun _ _ _ h => h) (Or.inl ⟨by rfl, ?_⟩) hHeld ?_; rotate_left; (focus (intro w hSw; (have q0 := hSw.cell e1); go_simp; first | done | with_reducible rfl)); try simp only [Act.put, List.setIfInBounds_toArray, List.set_cons_zero, List.set_cons_succ])
  refine wpAnyC_one (i := 6) (oi := ⟨some 61, _, _, _, _, _⟩) rfl (by kernel_rfl) (by decide) (fun K hK => ?_)
  rw [if_pos (by rfl)]
  go_simp
  refine (HC.out _ hHeld).mono ?_
  rintro e wz ⟨rfl, hxz⟩
  refine hK.out _ _ (hHeld.trans hxz) ?_
  replace hHeld := hHeld.trans hxz
  clear hK K
  try simp only [Act.put, List.setIfInBounds_toArray, List.set_cons_zero, List.set_cons_succ]
  (refine wpAnyC_take [8] (i := 7) (oi := ⟨some 6, _, _, _, _, _⟩) (v := ?_) rfl (by kernel_rfl) (by kernel_rfl) (by kernel_rfl) (by kernel_rfl) (fun _ _ _ h => h) (Or.inl ⟨by rfl, ?_⟩) hHeld ?_; rotate_left; (focus (intro w hSw; (skip); go_simp; first | done | with_reducible rfl)); try simp only [Act.put, List.setIfInBounds_toArray, List.set_cons_zero, List.set_cons_succ])
  have hps := HPS.out.ext0 hHeld
  obtain ⟨d0, d1, d2, d3, d4, d5, g0, g1, g2, g3, g4, g5⟩ := box_facts hps.box7
  refine wpAnyC_c (oi := ⟨none, _, _, _, _, _⟩) rfl (by kernel_rfl) (fun K hK => ?_)
  rw [if_pos (by rfl)]
  go_simp
  have hm9 := mod_setCells (fun k => k = b7) wz b7 0 [.int .i64 rn, .slice sa sn sc, .slice wa wn wc', .bool armed, .bool down, .int .i64 after] rfl
  have hb9 := blk_setCells b7 51 [.int .i64 rn, .slice sa sn sc, .slice wa wn wc', .bool armed, .bool down, .int .i64 after] 0 wz _ hps.box7 (by simp)
  show K _ (wz.setCells b7 0 [.int .i64 rn, .slice sa sn sc, .slice wa wn wc', .bool armed, .bool down, .int .i64 after])
  generalize wz.setCells b7 0 [.int .i64 rn, .slice sa sn sc, .slice wa wn wc', .bool armed, .bool down, .int .i64 after] = w9 at *
  refine hK.out _ _ ?_
  clear hK K
  try simp only [Act.put, List.setIfInBounds_toArray, List.set_cons_zero, List.set_cons_succ]
  (refine wpAny_take (i := 9) (oi := ⟨some 8, _, _, _, _, _⟩) (v := ?_) rfl (by kernel_rfl) (by kernel_rfl) (by kernel_rfl) (fun _ _ _ h => h) (Or.inl ⟨by rfl, ?_⟩) ?_; rotate_left; (focus (intro w; go_simp; first | done | with_reducible rfl)); try simp only [Act.put, List.setIfInBounds_toArray, List.set_cons_zero, List.set_cons_succ])
  refine wpAny_done (by kernel_rfl) ?_ _
  clear d0 d1 d2 d3 d4 d5 g0 g1 g2 g3 g4 g5
  obtain ⟨d0, d1, d2, d3, d4, d5, g0, g1, g2, g3, g4, g5⟩ := box_facts hb9
  go_wp2
  refine bodyPost_ret (v := .tuple #[.pointer (some ⟨p, 0, none⟩), .agg #[.int .i64 rn, .slice sa sn sc, .slice wa wn wc', .bool armed, .bool down, .int .i64 after], .bool true]) (by simp [results, Try.results24, go_sem, d0, d1, d2, d3, d4, d5]) rfl ⟨_, _, ⟨rn, safe, wait, armed, down, after⟩, _, _, rfl, hps.ends (HRA.out.ext hHeld) HREL.out (by show R4.len _ ≤ R4.len _ + 1; omega) hm9⟩

set_option maxRecDepth 100000 in
set_option maxHeartbeats 6400000 in
theorem play_clone {w0 w : World} {X : Nat → Prop} {p : Nat} {d : D.Dsk} {r : Ref4} {sv wv : Value} (h : Held w0 w X p d) (hr : RefAt w X r sv wv) (hrel : Rel d r) (hlen : R4.len r ≤ 900000) (i n : Int) (da ka : Option Addr) (dn dc kn kc : Nat) :
    Calls Try.prog 24 #[.pointer (some ⟨p, 0, none⟩), rv r sv wv, .agg #[.int .i64 7, .int .i64 i, .int .i64 n, .slice da dn dc, .slice ka kn kc]] w fun e w' => PlayOut w0 w w' X (R4.len r) e := by
  have hswl : r.safe.length + r.wait.length ≤ 900000 := hlen
  have hwait : d.wait.length ≤ 1000000 := by rw [hrel.wait]; omega
  have HREL := Lib.hid hrel
  obtain ⟨sa, sn, sc, hsv⟩ := hr.safe.any
  obtain ⟨wa, wn, wc', hwv⟩ := hr.wait.any
  subst hsv
  subst hwv
  obtain ⟨rn, safe, wait, armed, down, after⟩ := r
  simp only at hswl
  unfold rv
  simp only
  have hx1 : Ext w (((w.alloc (.cells #[.int .i64 rn, .slice sa sn sc, .slice wa wn wc', .bool armed, .bool down, .int .i64 after] 51)).alloc (.cells #[.int .i64 7, .int .i64 i, .int .i64 n, .slice da dn dc, .slice ka kn kc] 56)).alloc (.cells #[.int .i64 0, .slice none 0 0, .slice none 0 0, .bool false, .bool false, .int .i64 0] 51)) := ((Ext.of_alloc w _).alloc _).alloc _
  have hPS := PS.start h #[.int .i64 rn, .slice sa sn sc, .slice wa wn wc', .bool armed, .bool down, .int .i64 after] #[.int .i64 7, .int .i64 i, .int .i64 n, .slice da dn dc, .slice ka kn kc] #[.int .i64 0, .slice none 0 0, .slice none 0 0, .bool false, .bool false, .int .i64 0]
  have hRA := hr.all hx1
  clear h hr hrel
  go_enter Try.func24, Try.ntmps24
  go_upto_region 1 with (fail)
  generalize ((w.alloc (.cells #[.int .i64 rn, .slice sa sn sc, .slice wa wn wc', .bool armed, .bool down, .int .i64 after] 51)).alloc (.cells #[.int .i64 7, .int .i64 i, .int .i64 n, .slice da dn dc, .slice ka kn kc] 56)).alloc (.cells #[.int .i64 0, .slice none 0 0, .slice none 0 0, .bool false, .bool false, .int .i64 0] 51) = w1 at *
  generalize New X w w1 = Y at *
  generalize w.heap.size + 1 + 1 = b7 at *
  generalize w.heap.size + 1 = b5 at *
  generalize w.heap.size = b4 at *
  have HX1 := Lib.hid hx1
  have HPS := Lib.hid hPS
  have HRA := Lib.hid hRA
  have n45 := hPS.n45
  have n47 := hPS.n47
  have n57 := hPS.n57
  obtain ⟨c0, c1, c2, c3, c4, c5, _⟩ := box_facts hPS.box4
  obtain ⟨e0, e1, e2, e3, e4⟩ := box5_facts hPS.box5
  clear hx1 hPS hRA
  go_wp2_with fail
  refine (held_clone HPS.out.held (by omega)).mono ?_
  rintro e w2 ⟨q, rfl, hT, hx2⟩
  have hPSn := HPS.out.ext0 hx2
  have hRAn := HRA.out.ext hx2
  clear HPS HRA
  have HPS := Lib.hid hPSn
  have HRA := Lib.hid hRAn
  clear hPSn hRAn
  obtain ⟨X', hH, hsub, hback⟩ := hT.first
  have HSUB := Lib.hid hsub
  have HBK := Lib.hid hback
  have HH := Lib.hid hH
  have HYS := Lib.hid (show Y b4 ∧ Y b5 ∧ Y b7 ∧ (∀ k, X k → Y k) from ⟨HPS.out.y4, HPS.out.y5, HPS.out.y7, HPS.out.sub⟩)
  have hPSn := HPS.out.re hH (hsub _ HPS.out.y4) (hsub _ HPS.out.y5) (hsub _ HPS.out.y7) (fun k hk => hsub k (HPS.out.sub k hk))
  clear HPS
  have HPS := Lib.hid hPSn
  have HKX := Lib.hid (Keeps.refl X' w2)
  clear hPSn hT hx2 hH hsub hback
  clear c0 c1 c2 c3 c4 c5 e0 e1 e2 e3 e4
  obtain ⟨c0, c1, c2, c3, c4, c5, _⟩ := box_facts HPS.out.box4
  obtain ⟨e0, e1, e2, e3, e4⟩ := box5_facts HPS.out.box5
  have HR := Lib.hid (held_restart HPS.out.held (Ext.of_alloc w2 (.cells #[.bool true, .bool true, .bool true] 4)) (.slice (some ⟨w2.heap.size, 0, none⟩) 3 3) [true, true, true] (Reads.row w2 [.bool true, .bool true, .bool true] 4 (by simp [maxLen]) (by simp [Value.oneCell'])) (.inr fun k hk => .inr (by
    obtain rfl : w2.heap.size = k := by simpa [Value.ownBlock] using hk
    simp)))
  have HXR := Lib.hid (Ext.of_alloc w2 (.cells #[.bool true, .bool true, .bool true] 4))
  go_wp2_with fail
  refine (HR.out).mono ?_
  rintro e w3 ⟨rfl, hstep⟩
  have hKn := (HKX.out.trans (Keeps.of_ext (X := X') HXR.out)).trans hstep.2
  have hPSn := (HPS.out.ext0 HXR.out).step hstep
  clear HPS HKX
  have HPS := Lib.hid hPSn
  have HKX := Lib.hid hKn
  clear hPSn hKn hstep
  clear c0 c1 c2 c3 c4 c5 e0 e1 e2 e3 e4
  obtain ⟨c0, c1, c2, c3, c4, c5, _⟩ := box_facts HPS.out.box4
  obtain ⟨e0, e1, e2, e3, e4⟩ := box5_facts HPS.out.box5
  clear HR HXR
  have k1 := Lib.run_convert_bytes_const (P := Try.prog) w3 31 5 #[.int .u8 111, .int .u8 108, .int .u8 100] 3 3 Try.underlying31 Try.underlying5
  have hb1 : Bs (w3.alloc (.cells #[.int .u8 111, .int .u8 108, .int .u8 100] 5 (3, 4))) (.slice (some ⟨w3.heap.size, 0, none⟩) 3 3) [111, 108, 100] := Bs.litM w3 [111, 108, 100] 5 (3, 4) (by simp [maxLen])
  have hx1 := Ext.of_alloc w3 (.cells #[.int .u8 111, .int .u8 108, .int .u8 100] 5 (3, 4))
  go_wp2_with fail
  refine (full_step _ _ _ hb1).mono ?_
  rintro e w4 ⟨bb, rfl, hb, hb2, hbs, hxf⟩
  have hxx := hx1.trans hxf
  have HW := Lib.hid (held_write HPS.out.held hxx 0 _ _ hbs (held_full bb hx1.size hb hb2) (by simp [D.restart]))
  have HXX := Lib.hid hxx
  clear k1 hb1 hx1 hb hb2 hbs hxf hxx
  have hPSf := HPS.out.ext0 HXX.out
  obtain ⟨q0, q1, q2, q3, q4, q5, _⟩ := box_facts hPSf.box4
  obtain ⟨r0, r1, r2, r3, r4⟩ := box5_facts hPSf.box5
  clear hPSf
  go_wp2_with fail
  refine (HW.out).mono ?_
  rintro e w5 ⟨rfl, hstep⟩
  have hKn := (HKX.out.trans (Keeps.of_ext (X := X') HXX.out)).trans hstep.2
  have hPSn := (HPS.out.ext0 HXX.out).step hstep
  clear HPS HKX
  have HPS := Lib.hid hPSn
  have HKX := Lib.hid hKn
  clear hPSn hKn hstep
  clear c0 c1 c2 c3 c4 c5 e0 e1 e2 e3 e4
  obtain ⟨c0, c1, c2, c3, c4, c5, _⟩ := box_facts HPS.out.box4
  obtain ⟨e0, e1, e2, e3, e4⟩ := box5_facts HPS.out.box5
  clear HW HXX q0 q1 q2 q3 q4 q5 r0 r1 r2 r3 r4
  have hT5 := HBK.out _ _ HPS.out.held HKX.out
  have hPSn := HPS.out.re hT5.symm.held HYS.out.1 HYS.out.2.1 HYS.out.2.2.1 HYS.out.2.2.2
  have hRAn := HRA.out.keeps (HKX.out.less HSUB.out)
  clear HPS HRA
  have HPS := Lib.hid hPSn
  have HRA := Lib.hid hRAn
  clear hPSn hRAn hT5
  have hHeld := Ext.of_drew w5
  go_wp2_with fail
  refine wp_region_C (fun w' => Ext w5 w') 10 (by kernel_rfl) ?_
  generalize w5.drew = wz at *
  (refine wpAnyC_take [10] (i := 0) (oi := ⟨some 130, _, _, _, _, _⟩) (v := ?_) rfl (by kernel_rfl) (by kernel_rfl) (by kernel_rfl) (by kernel_rfl) (fun _ _ _ h => h) (Or.inl ⟨by rfl, ?_⟩) hHeld ?_; rotate_left; (focus (intro w hSw; (skip); go_simp; first | done | with_reducible rfl)); try simp only [Act.put, List.setIfInBounds_toArray, List.set_cons_zero, List.set_cons_succ])
  (refine wpAnyC_take [10] (i := 1) (oi := ⟨some 131, _, _, _, _, _⟩) (v := ?_) rfl (by kernel_rfl) (by kernel_rfl) (by kernel_rfl) (by kernel_rfl) (fun _ _ _ h => h) (Or.inl ⟨by rfl, ?_⟩) hHeld ?_; rotate_left; (focus (intro w hSw; (have q0 := hSw.cell c0; have q1 := hSw.cell c1; have q2 := hSw.cell c2; have q3 := hSw.cell c3; have q4 := hSw.cell c4; have q5 := hSw.cell c5); go_simp; first | done | with_reducible rfl)); try simp only [Act.put, List.setIfInBounds_toArray, List.set_cons_zero, List.set_cons_succ])
  (refine wpAnyC_take [3, 4, 9, 10] (i := 2) (oi := ⟨some 132, _, _, _, _, _⟩) (v := ?_) rfl (by kernel_rfl) (by kernel_rfl) (by kernel_rfl) (by kernel_rfl) (fun _ _ _ h => h) (Or.inl ⟨by rfl, ?_⟩) hHeld ?_; rotate_left; (focus (intro w hSw; (skip); go_simp; first | done | with_reducible rfl)); try simp only [Act.put, List.setIfInBounds_toArray, List.set_cons_zero, List.set_cons_succ])
  (refine wpAnyC_take [4, 9, 10] (i := 3) (oi := ⟨some 133, _, _, _, _, _⟩) (v := ?_) rfl (by kernel_rfl) (by kernel_rfl) (by kernel_rfl) (by kernel_rfl) (fun _ _ _ h => h) (Or.inl ⟨by rfl, ?_⟩) hHeld ?_; rotate_left; (focus (intro w hSw; (skip); go_simp; first | done | with_reducible rfl)); try simp only [Act.put, List.setIfInBounds_toArray, List.set_cons_zero, List.set_cons_succ])
  (refine wpAnyC_take [9, 10] (i := 4) (oi := ⟨some 134, _, _, _, _, _⟩) (v := ?_) rfl (by kernel_rfl) (by kernel_rfl) (by kernel_rfl) (by kernel_rfl) (fun _ _ _ h => h) (Or.inl ⟨by rfl, ?_⟩) hHeld ?_; rotate_left; (focus (intro w hSw; (skip); go_simp; first | done | with_reducible rfl)); try simp only [Act.put, List.setIfInBounds_toArray, List.set_cons_zero, List.set_cons_succ])
  (refine wpAnyC_pure (i := 5) (oi := ⟨some 135, _, _, _, _, _⟩) (v := ?_) rfl (by kernel_rfl) (by kernel_rfl) (by kernel_rfl) (by kernel_rfl) (fun _ _ _ h => h) (Or.inl ⟨by rfl, ?_⟩) hHeld ?_; rotate_left; (focus (intro w; go_simp; first | done | with_reducible rfl)); try simp only [Act.put, List.setIfInBounds_toArray, List.set_cons_zero, List.set_cons_succ])
  (refine wpAnyC_pure (i := 6) (oi := ⟨some 136, _, _, _, _, _⟩) (v := ?_) rfl (by kernel_rfl) (by kernel_rfl) (by kernel_rfl) (by kernel_rfl) (fun _ _ _ h => h) (Or.inl ⟨by rfl, ?_⟩) hHeld ?_; rotate_left; (focus (intro w; go_simp; first | done | with_reducible rfl)); try simp only [Act.put, List.setIfInBounds_toArray, List.set_cons_zero, List.set_cons_succ])
  (refine wpAnyC_pure (i := 7) (oi := ⟨some 137, _, _, _, _, _⟩) (v := ?_) rfl (by kernel_rfl) (by kernel_rfl) (by kernel_rfl) (by kernel_rfl) (fun _ _ _ h => h) (Or.inl ⟨by rfl, ?_⟩) hHeld ?_; rotate_left; (focus (intro w; go_simp; first | done | with_reducible rfl)); try simp only [Act.put, List.setIfInBounds_toArray, List.set_cons_zero, List.set_cons_succ])
  (refine wpAnyC_pure (i := 8) (oi := ⟨some 138, _, _, _, _, _⟩) (v := ?_) rfl (by kernel_rfl) (by kernel_rfl) (by kernel_rfl) (by kernel_rfl) (fun _ _ _ h => h) (Or.inl ⟨by rfl, ?_⟩) hHeld ?_; rotate_left; (focus (intro w; go_simp; first | done | with_reducible rfl)); try simp only [Act.put, List.setIfInBounds_toArray, List.set_cons_zero, List.set_cons_succ])
  (refine wpAnyC_take [10] (i := 9) (oi := ⟨some 6, _, _, _, _, _⟩) (v := ?_) rfl (by kernel_rfl) (by kernel_rfl) (by kernel_rfl) (by kernel_rfl) (fun _ _ _ h => h) (Or.inl ⟨by rfl, ?_⟩) hHeld ?_; rotate_left; (focus (intro w hSw; (skip); go_simp; first | done | with_reducible rfl)); try simp only [Act.put, List.setIfInBounds_toArray, List.set_cons_zero, List.set_cons_succ])
  have hps := HPS.out.ext0 hHeld
  obtain ⟨d0, d1, d2, d3, d4, d5, g0, g1, g2, g3, g4, g5⟩ := box_facts hps.box7
  refine wpAnyC_c (oi := ⟨none, _, _, _, _, _⟩) rfl (by kernel_rfl) (fun K hK => ?_)
  rw [if_pos (by rfl)]
  go_simp
  have hm9 := mod_setCells (fun k => k = b7) wz b7 0 [.int .i64 rn, .slice sa sn sc, .slice wa wn wc', .bool armed, .bool down, .int .i64 after] rfl
  have hb9 := blk_setCells b7 51 [.int .i64 rn, .slice sa sn sc, .slice wa wn wc', .bool armed, .bool down, .int .i64 after] 0 wz _ hps.box7 (by simp)
  show K _ (wz.setCells b7 0 [.int .i64 rn, .slice sa sn sc, .slice wa wn wc', .bool armed, .bool down, .int .i64 after])
  generalize wz.setCells b7 0 [.int .i64 rn, .slice sa sn sc, .slice wa wn wc', .bool armed, .bool down, .int .i64 after] = w9 at *
  refine hK.out _ _ ?_
  clear hK K
  try simp only [Act.put, List.setIfInBounds_toArray, List.set_cons_zero, List.set_cons_succ]
  (refine wpAny_take (i := 11) (oi := ⟨some 8, _, _, _, _, _⟩) (v := ?_) rfl (by kernel_rfl) (by kernel_rfl) (by kernel_rfl) (fun _ _ _ h => h) (Or.inl ⟨by rfl, ?_⟩) ?_; rotate_left; (focus (intro w; go_simp; first | done | with_reducible rfl)); try simp only [Act.put, List.setIfInBounds_toArray, List.set_cons_zero, List.set_cons_succ])
  refine wpAny_done (by kernel_rfl) ?_ _
  clear d0 d1 d2 d3 d4 d5 g0 g1 g2 g3 g4 g5
  obtain ⟨d0, d1, d2, d3, d4, d5, g0, g1, g2, g3, g4, g5⟩ := box_facts hb9
  go_wp2
  refine bodyPost_ret (v := .tuple #[.pointer (some ⟨q, 0, none⟩), .agg #[.int .i64 rn, .slice sa sn sc, .slice wa wn wc', .bool armed, .bool down, .int .i64 after], .bool true]) (by simp [results, Try.results24, go_sem, d0, d1, d2, d3, d4, d5]) rfl ⟨_, _, ⟨rn, safe, wait, armed, down, after⟩, _, _, rfl, hps.ends (HRA.out.ext hHeld) HREL.out (by show R4.len _ ≤ R4.len _ + 1; omega) hm9⟩

set_option maxRecDepth 100000 in
set_option maxHeartbeats 6400000 in
theorem play_c8 {w0 w : World} {X : Nat → Prop} {p : Nat} {d : D.Dsk} {r : Ref4} {sv wv : Value} (h : Held w0 w X p d) (hr : RefAt w X r sv wv) (hrel : Rel d r) (hlen : R4.len r ≤ 900000) (i n : Int) (da ka : Option Addr) (dn dc kn kc : Nat) :
    Calls Try.prog 24 #[.pointer (some ⟨p, 0, none⟩), rv r sv wv, .agg #[.int .i64 8, .int .i64 i, .int .i64 n, .slice da dn dc, .slice ka kn kc]] w fun e w' => PlayOut w0 w w' X (R4.len r) e := by
  have hswl : r.safe.length + r.wait.length ≤ 900000 := hlen
  have hwait : d.wait.length ≤ 1000000 := by rw [hrel.wait]; omega
  have HREL := Lib.hid hrel
  obtain ⟨sa, sn, sc, hsv⟩ := hr.safe.any
  obtain ⟨wa, wn, wc', hwv⟩ := hr.wait.any
  subst hsv
  subst hwv
  obtain ⟨rn, safe, wait, armed, down, after⟩ := r
  simp only at hswl
  unfold rv
  simp only
  have hx1 : Ext w (((w.alloc (.cells #[.int .i64 rn, .slice sa sn sc, .slice wa wn wc', .bool armed, .bool down, .int .i64 after] 51)).alloc (.cells #[.int .i64 8, .int .i64 i, .int .i64 n, .slice da dn dc, .slice ka kn kc] 56)).alloc (.cells #[.int .i64 0, .slice none 0 0, .slice none 0 0, .bool false, .bool false, .int .i64 0] 51)) := ((Ext.of_alloc w _).alloc _).alloc _
  have hPS := PS.start h #[.int .i64 rn, .slice sa sn sc, .slice wa wn wc', .bool armed, .bool down, .int .i64 after] #[.int .i64 8, .int .i64 i, .int .i64 n, .slice da dn dc, .slice ka kn kc] #[.int .i64 0, .slice none 0 0, .slice none 0 0, .bool false, .bool false, .int .i64 0]
  have hRA := hr.all hx1
  clear h hr hrel
  go_enter Try.func24, Try.ntmps24
  go_upto_region 1 with (fail)
  generalize ((w.alloc (.cells #[.int .i64 rn, .slice sa sn sc, .slice wa wn wc', .bool armed, .bool down, .int .i64 after] 51)).alloc (.cells #[.int .i64 8, .int .i64 i, .int .i64 n, .slice da dn dc, .slice ka kn kc] 56)).alloc (.cells #[.int .i64 0, .slice none 0 0, .slice none 0 0, .bool false, .bool false, .int .i64 0] 51) = w1 at *
  generalize New X w w1 = Y at *
  generalize w.heap.size + 1 + 1 = b7 at *
  generalize w.heap.size + 1 = b5 at *
  generalize w.heap.size = b4 at *
  have HX1 := Lib.hid hx1
  have HPS := Lib.hid hPS
  have HRA := Lib.hid hRA
  have n45 := hPS.n45
  have n47 := hPS.n47
  have n57 := hPS.n57
  obtain ⟨c0, c1, c2, c3, c4, c5, _⟩ := box_facts hPS.box4
  obtain ⟨e0, e1, e2, e3, e4⟩ := box5_facts hPS.box5
  clear hx1 hPS hRA
  go_wp2_with fail
  refine (held_clone HPS.out.held (by omega)).mono ?_
  rintro e w2 ⟨q, rfl, hT, hx2⟩
  have hPSn := HPS.out.ext0 hx2
  have hRAn := HRA.out.ext hx2
  clear HPS HRA
  have HPS := Lib.hid hPSn
  have HRA := Lib.hid hRAn
  clear hPSn hRAn
  obtain ⟨X', hH, hsub, hback⟩ := hT.symm.first
  have HSUB := Lib.hid hsub
  have HBK := Lib.hid hback
  have HH := Lib.hid hH
  have HYS := Lib.hid (show Y b4 ∧ Y b5 ∧ Y b7 ∧ (∀ k, X k → Y k) from ⟨HPS.out.y4, HPS.out.y5, HPS.out.y7, HPS.out.sub⟩)
  have hPSn := HPS.out.re hH (hsub _ HPS.out.y4) (hsub _ HPS.out.y5) (hsub _ HPS.out.y7) (fun k hk => hsub k (HPS.out.sub k hk))
  clear HPS
  have HPS := Lib.hid hPSn
  have HKX := Lib.hid (Keeps.refl X' w2)
  clear hPSn hT hx2 hH hsub hback
  clear c0 c1 c2 c3 c4 c5 e0 e1 e2 e3 e4
  obtain ⟨c0, c1, c2, c3, c4, c5, _⟩ := box_facts HPS.out.box4
  obtain ⟨e0, e1, e2, e3, e4⟩ := box5_facts HPS.out.box5
  have k1 := Lib.run_convert_bytes_const (P := Try.prog) w2 31 5 #[.int .u8 99, .int .u8 108, .int .u8 111, .int .u8 110, .int .u8 101] 5 5 Try.underlying31 Try.underlying5
  have hb1 : Bs (w2.alloc (.cells #[.int .u8 99, .int .u8 108, .int .u8 111, .int .u8 110, .int .u8 101] 5 (5, 6))) (.slice (some ⟨w2.heap.size, 0, none⟩) 5 5) [99, 108, 111, 110, 101] := Bs.litM w2 [99, 108, 111, 110, 101] 5 (5, 6) (by simp [maxLen])
  have hx1 := Ext.of_alloc w2 (.cells #[.int .u8 99, .int .u8 108, .int .u8 111, .int .u8 110, .int .u8 101] 5 (5, 6))
  go_wp2_with fail
  refine (full_step _ _ _ hb1).mono ?_
  rintro e w4 ⟨bb, rfl, hb, hb2, hbs, hxf⟩
  have hxx := hx1.trans hxf
  have HW := Lib.hid (held_write HPS.out.held hxx 0 _ _ hbs (held_full bb hx1.size hb hb2) (by omega))
  have HXX := Lib.hid hxx
  clear k1 hb1 hx1 hb hb2 hbs hxf hxx
  have hPSf := HPS.out.ext0 HXX.out
  obtain ⟨q0, q1, q2, q3, q4, q5, _⟩ := box_facts hPSf.box4
  obtain ⟨r0, r1, r2, r3, r4⟩ := box5_facts hPSf.box5
  clear hPSf
  go_wp2_with fail
  refine (HW.out).mono ?_
  rintro e w5 ⟨rfl, hstep⟩
  have hKn := (HKX.out.trans (Keeps.of_ext (X := X') HXX.out)).trans hstep.2
  have hPSn := (HPS.out.ext0 HXX.out).step hstep
  clear HPS HKX
  have HPS := Lib.hid hPSn
  have HKX := Lib.hid hKn
  clear hPSn hKn hstep
  clear c0 c1 c2 c3 c4 c5 e0 e1 e2 e3 e4
  obtain ⟨c0, c1, c2, c3, c4, c5, _⟩ := box_facts HPS.out.box4
  obtain ⟨e0, e1, e2, e3, e4⟩ := box5_facts HPS.out.box5
  clear HW HXX q0 q1 q2 q3 q4 q5 r0 r1 r2 r3 r4
  go_wp2_with fail
  refine (held_flush HPS.out.held).mono ?_
  rintro e w6 ⟨rfl, hstep⟩
  have hKn := HKX.out.trans hstep.2
  have hPSn := HPS.out.step hstep
  clear HPS HKX
  have HPS := Lib.hid hPSn
  have HKX := Lib.hid hKn
  clear hPSn hKn hstep
  clear c0 c1 c2 c3 c4 c5 e0 e1 e2 e3 e4
  obtain ⟨c0, c1, c2, c3, c4, c5, _⟩ := box_facts HPS.out.box4
  obtain ⟨e0, e1, e2, e3, e4⟩ := box5_facts HPS.out.box5
  go_wp2_with fail
  refine (held_cut HPS.out.held).mono ?_
  rintro e w7 ⟨rfl, hstep⟩
  have hKn := HKX.out.trans hstep.2
  have hPSn := HPS.out.step hstep
  clear HPS HKX
  have HPS := Lib.hid hPSn
  have HKX := Lib.hid hKn
  clear hPSn hKn hstep
  clear c0 c1 c2 c3 c4 c5 e0 e1 e2 e3 e4
  obtain ⟨c0, c1, c2, c3, c4, c5, _⟩ := box_facts HPS.out.box4
  obtain ⟨e0, e1, e2, e3, e4⟩ := box5_facts HPS.out.box5
  have hT5 := HBK.out _ _ HPS.out.held HKX.out
  have hPSn := HPS.out.re hT5.symm.held HYS.out.1 HYS.out.2.1 HYS.out.2.2.1 HYS.out.2.2.2
  have hRAn := HRA.out.keeps (HKX.out.less HSUB.out)
  clear HPS HRA
  have HPS := Lib.hid hPSn
  have HRA := Lib.hid hRAn
  clear hPSn hRAn hT5
  have hHeld := Ext.of_drew w7
  go_wp2_with fail
  refine wp_region_C (fun w' => Ext w7 w') 10 (by kernel_rfl) ?_
  generalize w7.drew = wz at *
  (refine wpAnyC_take [10] (i := 0) (oi := ⟨some 130, _, _, _, _, _⟩) (v := ?_) rfl (by kernel_rfl) (by kernel_rfl) (by kernel_rfl) (by kernel_rfl) (fun _ _ _ h => h) (Or.inl ⟨by rfl, ?_⟩) hHeld ?_; rotate_left; (focus (intro w hSw; (skip); go_simp; first | done | with_reducible rfl)); try simp only [Act.put, List.setIfInBounds_toArray, List.set_cons_zero, List.set_cons_succ])
  (refine wpAnyC_take [10] (i := 1) (oi := ⟨some 131, _, _, _, _, _⟩) (v := ?_) rfl (by kernel_rfl) (by kernel_rfl) (by kernel_rfl) (by kernel_rfl) (fun _ _ _ h => h) (Or.inl ⟨by rfl, ?_⟩) hHeld ?_; rotate_left; (focus (intro w hSw; (have q0 := hSw.cell c0; have q1 := hSw.cell c1; have q2 := hSw.cell c2; have q3 := hSw.cell c3; have q4 := hSw.cell c4; have q5 := hSw.cell c5); go_simp; first | done | with_reducible rfl)); try simp only [Act.put, List.setIfInBounds_toArray, List.set_cons_zero, List.set_cons_succ])
  (refine wpAnyC_take [3, 4, 9, 10] (i := 2) (oi := ⟨some 132, _, _, _, _, _⟩) (v := ?_) rfl (by kernel_rfl) (by kernel_rfl) (by kernel_rfl) (by kernel_rfl) (fun _ _ _ h => h) (Or.inl ⟨by rfl, ?_⟩) hHeld ?_; rotate_left; (focus (intro w hSw; (skip); go_simp; first | done | with_reducible rfl)); try simp only [Act.put, List.setIfInBounds_toArray, List.set_cons_zero, List.set_cons_succ])
  (refine wpAnyC_take [4, 9, 10] (i := 3) (oi := ⟨some 133, _, _, _, _, _⟩) (v := ?_) rfl (by kernel_rfl) (by kernel_rfl) (by kernel_rfl) (by kernel_rfl) (fun _ _ _ h => h) (Or.inl ⟨by rfl, ?_⟩) hHeld ?_; rotate_left; (focus (intro w hSw; (skip); go_simp; first | done | with_reducible rfl)); try simp only [Act.put, List.setIfInBounds_toArray, List.set_cons_zero, List.set_cons_succ])
  (refine wpAnyC_take [9, 10] (i := 4) (oi := ⟨some 134, _, _, _, _, _⟩) (v := ?_) rfl (by kernel_rfl) (by kernel_rfl) (by kernel_rfl) (by kernel_rfl) (fun _ _ _ h => h) (Or.inl ⟨by rfl, ?_⟩) hHeld ?_; rotate_left; (focus (intro w hSw; (skip); go_simp; first | done | with_reducible rfl)); try simp only [Act.put, List.setIfInBounds_toArray, List.set_cons_zero, List.set_cons_succ])
  (refine wpAnyC_pure (i := 5) (oi := ⟨some 135, _, _, _, _, _⟩) (v := ?_) rfl (by kernel_rfl) (by kernel_rfl) (by kernel_rfl) (by kernel_rfl) (fun _ _ _ h => h) (Or.inl ⟨by rfl, ?_⟩) hHeld ?_; rotate_left; (focus (intro w; go_simp; first | done | with_reducible rfl)); try simp only [Act.put, List.setIfInBounds_toArray, List.set_cons_zero, List.set_cons_succ])
  (refine wpAnyC_pure (i := 6) (oi := ⟨some 136, _, _, _, _, _⟩) (v := ?_) rfl (by kernel_rfl) (by kernel_rfl) (by kernel_rfl) (by kernel_rfl) (fun _ _ _ h => h) (Or.inl ⟨by rfl, ?_⟩) hHeld ?_; rotate_left; (focus (intro w; go_simp; first | done | with_reducible rfl)); try simp only [Act.put, List.setIfInBounds_toArray, List.set_cons_zero, List.set_cons_succ])
  (refine wpAnyC_pure (i := 7) (oi := ⟨some 137, _, _, _, _, _⟩) (v := ?_) rfl (by kernel_rfl) (by kernel_rfl) (by kernel_rfl) (by kernel_rfl) (fun _ _ _ h => h) (Or.inl ⟨by rfl, ?_⟩) hHeld ?_; rotate_left; (focus (intro w; go_simp; first | done | with_reducible rfl)); try simp only [Act.put, List.setIfInBounds_toArray, List.set_cons_zero, List.set_cons_succ])
  (refine wpAnyC_pure (i := 8) (oi := ⟨some 138, _, _, _, _, _⟩) (v := ?_) rfl (by kernel_rfl) (by kernel_rfl) (by kernel_rfl) (by kernel_rfl) (fun _ _ _ h => h) (Or.inl ⟨by rfl, ?_⟩) hHeld ?_; rotate_left; (focus (intro w; go_simp; first | done | with_reducible rfl)); try simp only [Act.put, List.setIfInBounds_toArray, List.set_cons_zero, List.set_cons_succ])
  (refine wpAnyC_take [10] (i := 9) (oi := ⟨some 6, _, _, _, _, _⟩) (v := ?_) rfl (by kernel_rfl) (by kernel_rfl) (by kernel_rfl) (by kernel_rfl) (fun _ _ _ h => h) (Or.inl ⟨by rfl, ?_⟩) hHeld ?_; rotate_left; (focus (intro w hSw; (skip); go_simp; first | done | with_reducible rfl)); try simp only [Act.put, List.setIfInBounds_toArray, List.set_cons_zero, List.set_cons_succ])
  have hps := HPS.out.ext0 hHeld
  obtain ⟨d0, d1, d2, d3, d4, d5, g0, g1, g2, g3, g4, g5⟩ := box_facts hps.box7
  refine wpAnyC_c (oi := ⟨none, _, _, _, _, _⟩) rfl (by kernel_rfl) (fun K hK => ?_)
  rw [if_pos (by rfl)]
  go_simp
  have hm9 := mod_setCells (fun k => k = b7) wz b7 0 [.int .i64 rn, .slice sa sn sc, .slice wa wn wc', .bool armed, .bool down, .int .i64 after] rfl
  have hb9 := blk_setCells b7 51 [.int .i64 rn, .slice sa sn sc, .slice wa wn wc', .bool armed, .bool down, .int .i64 after] 0 wz _ hps.box7 (by simp)
  show K _ (wz.setCells b7 0 [.int .i64 rn, .slice sa sn sc, .slice wa wn wc', .bool armed, .bool down, .int .i64 after])
  generalize wz.setCells b7 0 [.int .i64 rn, .slice sa sn sc, .slice wa wn wc', .bool armed, .bool down, .int .i64 after] = w9 at *
  refine hK.out _ _ ?_
  clear hK K
  try simp only [Act.put, List.setIfInBounds_toArray, List.set_cons_zero, List.set_cons_succ]
  (refine wpAny_take (i := 11) (oi := ⟨some 8, _, _, _, _, _⟩) (v := ?_) rfl (by kernel_rfl) (by kernel_rfl) (by kernel_rfl) (fun _ _ _ h => h) (Or.inl ⟨by rfl, ?_⟩) ?_; rotate_left; (focus (intro w; go_simp; first | done | with_reducible rfl)); try simp only [Act.put, List.setIfInBounds_toArray, List.set_cons_zero, List.set_cons_succ])
  refine wpAny_done (by kernel_rfl) ?_ _
  clear d0 d1 d2 d3 d4 d5 g0 g1 g2 g3 g4 g5
  obtain ⟨d0, d1, d2, d3, d4, d5, g0, g1, g2, g3, g4, g5⟩ := box_facts hb9
  go_wp2
  refine bodyPost_ret (v := .tuple #[.pointer (some ⟨p, 0, none⟩), .agg #[.int .i64 rn, .slice sa sn sc, .slice wa wn wc', .bool armed, .bool down, .int .i64 after], .bool true]) (by simp [results, Try.results24, go_sem, d0, d1, d2, d3, d4, d5]) rfl ⟨_, _, ⟨rn, safe, wait, armed, down, after⟩, _, _, rfl, hps.ends (HRA.out.ext hHeld) HREL.out (by show R4.len _ ≤ R4.len _ + 1; omega) hm9⟩
end Go.Proofs.Ytmlancmcgcjodaa
