import Derived.Test.YtnjfioikpajhlaaGreatRefC
import Derived.Test.YtnjfioikpajhlaaGreatWalP
set_option maxRecDepth 100000
set_option maxHeartbeats 64000000
/- Several texts in one (RefH, RefI, RefJ, RefK). -/
namespace Go.Proofs.YtnjfioikpajhlaaGreat
open Go.RowKit
theorem own_ne {w : World} {base n : Nat} {e1 e2 : TypeId} {v : Value} {xs : List Value} {size b : Nat} {A : Array Value} (h : w.ownsRow base e1 size v n xs) (hb : w.heap[b]? = some (.cells A e2 (0, 0))) (he : e1 ≠ e2) : ∀ k, v.ownBlock = some k -> ¬ k = b := by
 rintro k hk rfl
 rcases h.2 with ⟨rfl, _⟩ | ⟨g, cap, cur, rfl, _, hh, _⟩
 ·simp [Value.ownBlock] at hk
 ·have : g = k := by simpa [Value.ownBlock] using hk
  subst this
  rw [hh] at hb
  have h3 : e1 = e2 := by injection (Option.some.inj hb)
  exact he h3
theorem RefAt.store5 {w w' : World} {X : Nat -> Prop} {r : Ref4} {sv wv : Value} (h : RefAt w X r sv wv) {b : Nat} {A : Array Value} {e : TypeId} (hb : w.heap[b]? = some (.cells A e (0, 0))) (he : (123 : TypeId) ≠ e) (hm : Mod (fun k => k = b) w w') : RefAt w' X r sv wv :=
 ⟨h.safe.keeps hm (own_ne h.safe hb he), h.wait.keeps hm (own_ne h.wait hb he), h.sX, h.wX⟩
theorem new_new {X : Nat -> Prop} {w w1 v : World} (h1 : Ext w w1) (h2 : Ext w1 v) : ∀ k, New (New X w w1) w1 v k -> New X w v k := by
 rintro k ((hk | ⟨a, b⟩) | ⟨a, b⟩)
 ·exact .inl hk
 ·exact .inr ⟨a, Nat.lt_of_lt_of_le b h2.size⟩
 ·exact .inr ⟨Nat.le_trans h1.size a, b⟩
structure RB (w v : World) (X : Nat -> Prop) (r : Ref4) (sv wv : Value) : Prop where
 at_ : RefAt v (New X w v) r sv wv
 b0 : v.heap[w.heap.size]? = some (.cells #[.int .i64 r.n, sv, wv, .bool r.armed, .bool r.down, .int .i64 r.after] 33 (0, 0))
 b1 : v.heap[w.heap.size + 1]? = some (.cells #[.int .i64 0, .slice none 0 0, .slice none 0 0, .bool false, .bool false, .int .i64 0] 33 (0, 0))
 ext : Ext w v
theorem RB.after {w v v' : World} {X : Nat -> Prop} {r : Ref4} {sv wv : Value} (h : RB w v X r sv wv) (hx : Ext v v') : RB w v' X r sv wv :=
 ⟨(h.at_.ext hx).more (fun k hk => hk.imp (fun a => a) (fun a => ⟨a.1, Nat.lt_of_lt_of_le a.2 hx.size⟩)), blk_mod (F := fun _ => False) h.b0 (Mod.of_ext hx) (fun h => h), blk_mod (F := fun _ => False) h.b1 (Mod.of_ext hx) (fun h => h), h.ext.trans hx⟩
theorem RB.put {w u v v' : World} {X : Nat -> Prop} {r r' : Ref4} {sv wv sv' wv' : Value} (h : RB w u X r sv wv) (hx : Ext u v) (hr : RefAt v (New (New X w u) u v) r' sv' wv') (hm : Mod (fun k => k = w.heap.size) v v')
 (hb : v'.heap[w.heap.size]? = some (.cells #[.int .i64 r'.n, sv', wv', .bool r'.armed, .bool r'.down, .int .i64 r'.after] 33 (0, 0))) : RB w v' X r' sv' wv' := by
 have h2 := h.after hx
 exact ⟨(hr.store5 h2.b0 (by decide) hm).more (fun k hk => (new_new h.ext hx k hk).imp (fun a => a) (fun a => ⟨a.1, Nat.lt_of_lt_of_le a.2 hm.size⟩)), hb, blk_mod h2.b1 hm (by omega), hm.ext h2.ext (fun k e => by omega)⟩
theorem RB.fin {w v v' : World} {X : Nat -> Prop} {r : Ref4} {sv wv : Value} (h : RB w v X r sv wv) (hm : Mod (fun k => k = w.heap.size + 1) v v') : RefAt v' (New X w v') r sv wv /\ Ext w v' :=
 ⟨(h.at_.store5 h.b1 (by decide) hm).more (fun k hk => hk.imp (fun a => a) (fun a => ⟨a.1, Nat.lt_of_lt_of_le a.2 hm.size⟩)), hm.ext h.ext (fun k e => by omega)⟩
theorem RB.start {w : World} {X : Nat -> Prop} {r : Ref4} {sv wv : Value} (h : RefAt w X r sv wv) :
 RB w ((w.alloc (.cells #[.int .i64 r.n, sv, wv, .bool r.armed, .bool r.down, .int .i64 r.after] 33)).alloc (.cells #[.int .i64 0, .slice none 0 0, .slice none 0 0, .bool false, .bool false, .int .i64 0] 33)) X r sv wv := by
 have hx : Ext w ((w.alloc (.cells #[.int .i64 r.n, sv, wv, .bool r.armed, .bool r.down, .int .i64 r.after] 33)).alloc (.cells #[.int .i64 0, .slice none 0 0, .slice none 0 0, .bool false, .bool false, .int .i64 0] 33)) := (Ext.of_alloc w _).alloc _
 obtain ⟨h1, h2⟩ := two_boxes w _ _ _ _ (Ext.refl ((w.alloc (.cells #[.int .i64 r.n, sv, wv, .bool r.armed, .bool r.down, .int .i64 r.after] 33)).alloc (.cells #[.int .i64 0, .slice none 0 0, .slice none 0 0, .bool false, .bool false, .int .i64 0] 33)))
 exact ⟨h.all hx, h1, h2, hx⟩
theorem layTo_zero_lt {d : D.Dsk} {gen record s : Nat} {b : List UInt8} {k n : Nat} (h : (W5.layTo d gen record s b k).2 ≠ 0) (hk : k <= n) : W5.layTo d gen record s b n = W5.layTo d gen record s b k := W5.layTo_stop d gen record s b k h n hk
theorem refLay (r : Ref4) (X : Nat -> Prop) (sv wv : Value) (d : D.Dsk) (hrel0 : Rel d r) (hn1 : 1 <= d.n) (hn2 : d.n <= 4096) (gen record at_ : Nat) (s : List UInt8) (w : World) (h : RefAt w X r sv wv) (hlen : R4.len r <= 900000) (hg : gen < 4294967296) (hr : record < 4294967296) (hat : at_ <= 100000) (hs : s.length <= 8192) :
 Calls Tryz.prog 73 #[rv r sv wv, .int .u32 (gen : Int), .int .i64 (record : Int), .int .i64 (at_ : Int), .string ⟨s.toArray⟩] w fun e w' => ∃ r', Rel (W5.lay d gen record at_ s).1 r' /\ R4.len r' <= R4.len r + W5.need s.length /\ RefOut w w' X r' (W5.lay d gen record at_ s).2 e := by
 have HPC := qh (fun w => refPieces gen record s w hg hr hs)
 have hal := W5.area_le d hn2
 have haa := W5.areaAt_le d gen
 have hnd := need_17 s.length hs
 have hlay : W5.lay d gen record at_ s = W5.layTo d gen record (W5.areaAt d gen + at_) s (W5.need s.length) := rfl
 rw [hlay]
 clear hlay
 have hnp := W5.need_pos s.length
 generalize W5.need s.length = N at *
 have hRB := RB.start h
 have HREL0 := qh hrel0
 obtain ⟨sa, sn, sc, hsv⟩ := h.safe.any
 obtain ⟨wa, wn, wc', hwv⟩ := h.wait.any
 subst hsv
 subst hwv
 have hgi : (gen : Int) < 4294967296 := by omega
 have hri : (record : Int) < 4294967296 := by omega
 have hati : (at_ : Int) <= 100000 := by omega
 have HG := qh hg
 have HRC := qh hr
 generalize hL0 : R4.len r = L0 at *
 have HFI := qh (fun (r : Ref4) (sv wv : Value) (d' : D.Dsk) (h1 : ∃ a n cap, sv = .slice a n cap) (h2 : ∃ a n cap, wv = .slice a n cap) (h3 : d'.n = r.n) (h4 : d'.n = d.n) (w' : World) => refFirst r sv wv h1 h2 d' h3 (by rw [h4]; exact hn1) (by rw [h4]; exact hn2) gen w' hg)
 have HAA := qh (fun (d' : D.Dsk) (h4 : d'.n = d.n) => show W5.areaAt d' gen = W5.areaAt d gen by unfold W5.areaAt W5.area; rw [h4])
 generalize hZ : W5.areaAt d gen = Z at *
 have hZi : (Z : Int) <= 2049 := by omega
 unfold RefOut
 unfold rv
 clear h hrel0 hg hr hal haa hZ
 go_enter Tryz.func73, Tryz.ntmps73
 go_upto_region 1 with (fail)
 generalize ((w.alloc (.cells #[.int .i64 r.n, .slice sa sn sc, .slice wa wn wc', .bool r.armed, .bool r.down, .int .i64 r.after] 33)).alloc (.cells #[.int .i64 0, .slice none 0 0, .slice none 0 0, .bool false, .bool false, .int .i64 0] 33)) = w1 at *
 have HRB := qh hRB
 clear hRB
 go_wp2_with fail
 refine (HPC.out _).mono ?_
 clear HPC
 rintro e w2 ⟨pv, rfl, hown, hx2⟩
 have hsz := HRB.out.ext.size
 have HRB2 := qh (HRB.out.after hx2)
 have hgz : Hid (∀ k, pv.ownBlock = some k -> k ≠ w.heap.size) := by
  intro k hk he
  exact own_ne hown HRB2.out.b0 (by decide) k hk he
 obtain ⟨g, cap, rfl⟩ : ∃ g cap, pv = .slice (some ⟨g, 0, none⟩) N cap := by
  rcases own_shape hown with ⟨a, c, _, h0⟩ | ⟨g, c, h1, _⟩
  ·omega
  ·exact ⟨g, c, h1⟩
 have HOW := qh hown
 clear hown hx2 HRB
 have hNi : (N : Int) <= 17 := by omega
 go_wp2
 go_loopw [13] (fun iv wr => ∃ (k : Nat) (r1 : Ref4) (pa qa : Option Addr) (pn pc qn qc : Nat), k <= N /\ iv = .int .i64 (k : Int) /\ R4.len r1 <= L0 + k /\ Hid (Rel (W5.layTo d gen record (Z + at_) s k).1 r1) /\ Hid ((W5.layTo d gen record (Z + at_) s k).2 = 0) /\ Hid (RB w wr X r1 (.slice pa pn pc) (.slice qa qn qc)) /\ Hid (wr.ownsRow w1.heap.size 9 1 (.slice (some ⟨g, 0, none⟩) N cap) N ((W5.recP gen record s N).map strV))) (fun iv _ => N - (intOf iv).toNat)
 case atStart => exact ⟨0, r, _, _, _, _, _, _, by omega, rfl, by omega, HREL0, rfl, HRB2, HOW⟩
 case round =>
  obtain ⟨k, r1, pa, qa, pn, pc, qn, qc, hk, rfl, hl1, hq1, he, hrb, how⟩ := hrel
  clear HRB2 HOW HREL0
  obtain ⟨c0, c1, c2, c3, c4, c5, f0, f1, f2, f3, f4, f5⟩ := box_facts hrb.out.b0
  by_cases hlt : k < N
  ·have hlti : (k : Int) < (N : Int) := by omega
   have hpl : k < (W5.recP gen record s N).length := by rw [W5.recP_len]; exact hlt
   have cp := how.out.cellAt k (by omega)
   rw [List.getElem?_eq_getElem (by rw [List.length_map]; exact hpl), List.getElem_map, W5.recP_get] at cp
   have hsu : W5.layTo d gen record (Z + at_) s (k + 1) = (D.write (W5.layTo d gen record (Z + at_) s k).1 ((Z + at_ + k : Nat) : Int) (W5.piece gen record k s), D.writeE (W5.layTo d gen record (Z + at_) s k).1 ((Z + at_ + k : Nat) : Int) (W5.piece gen record k s)) := if_pos he.out
   have hst : Hid ((W5.layTo d gen record (Z + at_) s (k + 1)).2 ≠ 0 -> W5.layTo d gen record (Z + at_) s N = W5.layTo d gen record (Z + at_) s (k + 1)) := fun h => layTo_zero_lt h hlt
   have hdn := W5.layTo_n d gen record (Z + at_) s k
   have hpp := W5.piece_len gen record k s
   have hQk : ((Z + at_ + k : Nat) : Int) = (Z : Int) + (at_ : Int) + (k : Int) := by omega
   rw [hQk] at hsu
   generalize W5.layTo d gen record (Z + at_) s k = DK at *
   have hfi := HFI.out r1 (.slice pa pn pc) (.slice qa qn qc) DK.1 ⟨_, _, _, rfl⟩ ⟨_, _, _, rfl⟩ hq1.out.n hdn
   rw [HAA.out DK.1 hdn] at hfi
   unfold rv at hfi
   have HFR := qh hfi
   generalize W5.piece gen record k s = P at *
   have hHX := Ext.of_drew wr
   have hw1 : IntKind.i64.wrap ((Z : Int) + (at_ : Int)) = (Z : Int) + (at_ : Int) := by rw [IntKind.wrap_i64]; omega
   have hw2 : IntKind.i64.wrap ((Z : Int) + (at_ : Int) + (k : Int)) = (Z : Int) + (at_ : Int) + (k : Int) := by rw [IntKind.wrap_i64]; omega
   have HSU := qh hsu
   have HQ := qh (hq1.out.lay ((Z : Int) + (at_ : Int) + (k : Int)) P)
   have HLN := qh (lay_len r1 ((Z : Int) + (at_ : Int) + (k : Int)) P)
   have hwl : r1.wait.length + 1 <= 1000000 := by unfold R4.len at hl1; omega
   have HC : Hid (∀ v, Ext wr v -> Calls Tryz.prog 99 #[.agg #[.int .i64 r1.n, .slice pa pn pc, .slice qa qn qc, .bool r1.armed, .bool r1.down, .int .i64 r1.after], .int .i64 ((Z : Int) + (at_ : Int) + (k : Int)), .string ⟨P.toArray⟩] v fun e w' => RefOut v w' (New X w v) (R4.lay r1 ((Z : Int) + (at_ : Int) + (k : Int)) P).1 (R4.lay r1 ((Z : Int) + (at_ : Int) + (k : Int)) P).2 e) :=
    fun v hv => ref_lay r1 _ (.slice pa pn pc) (.slice qa qn qc) ((Z : Int) + (at_ : Int) + (k : Int)) P v (hrb.out.after hv).at_ hwl (by omega)
   generalize R4.lay r1 ((Z : Int) + (at_ : Int) + (k : Int)) P = RES at *
   obtain ⟨r2, k2⟩ := RES
   simp only at HC HQ HLN
   clear hsu hpl hdn hfi hwl hpp he hq1 hQk
   go_wp2_with fail
   have hHeld := hHX
   refine wp_region_C (fun w' => Ext wr w') 12 (by kernel_rfl) ?_
   (refine aC [12] (i := 0) (oi := ⟨some 26, _, _, _, _, _⟩) (v := ?_) rfl ?_ hHeld ?_; rotate_left; (focus (intro w hSw; ((have q0 := hSw.cell c0; have q1 := hSw.cell c1; have q2 := hSw.cell c2; have q3 := hSw.cell c3; have q4 := hSw.cell c4; have q5 := hSw.cell c5)); go_simp; first | done | with_reducible rfl)); try simp only [Act.put, zB, zC, zD])
   (refine aC [3, 12] (i := 1) (oi := ⟨some 27, _, _, _, _, _⟩) (v := ?_) rfl ?_ hHeld ?_; rotate_left; (focus (intro w hSw; ((have q0 := hSw.cell c0; have q1 := hSw.cell c1; have q2 := hSw.cell c2; have q3 := hSw.cell c3; have q4 := hSw.cell c4; have q5 := hSw.cell c5)); go_simp; first | done | with_reducible rfl)); try simp only [Act.put, zB, zC, zD])
   (refine aC [3, 12] (i := 2) (oi := ⟨some 28, _, _, _, _, _⟩) (v := ?_) rfl ?_ hHeld ?_; rotate_left; (focus (intro w hSw; (skip); go_simp; first | done | with_reducible rfl)); try simp only [Act.put, zB, zC, zD])
   (refine aC [5, 7, 12] (i := 4) (oi := ⟨some 30, _, _, _, _, _⟩) (v := ?_) rfl ?_ hHeld ?_; rotate_left; (focus (intro w hSw; (skip); go_simp; first | done | with_reducible rfl)); try simp only [Act.put, zB, zC, zD])
   (refine aC [7, 12] (i := 6) (oi := ⟨some 32, _, _, _, _, _⟩) (v := ?_) rfl ?_ hHeld ?_; rotate_left; (focus (intro w hSw; (skip); go_simp; first | done | with_reducible rfl)); try simp only [Act.put, zB, zC, zD])
   (refine aC [10, 11, 12] (i := 8) (oi := ⟨some 34, _, _, _, _, _⟩) (v := ?_) rfl ?_ hHeld ?_; rotate_left; (focus (intro w hSw; (skip); go_simp; first | done | with_reducible rfl)); try simp only [Act.put, zB, zC, zD])
   (refine aC [10, 11, 12] (i := 9) (oi := ⟨some 35, _, _, _, _, _⟩) (v := ?_) rfl ?_ hHeld ?_; rotate_left; (focus (intro w hSw; (skip); go_simp; first | done | with_reducible rfl)); try simp only [Act.put, zB, zC, zD])
   (refine aC [11, 12] (i := 10) (oi := ⟨some 36, _, _, _, _, _⟩) (v := ?_) rfl ?_ hHeld ?_; rotate_left; (focus (intro w hSw; (skip); go_simp; first | done | with_reducible rfl)); try simp only [Act.put, zB, zC, zD])
   (refine aC [12] (i := 11) (oi := ⟨some 37, _, _, _, _, _⟩) (v := ?_) rfl ?_ hHeld ?_; rotate_left; (focus (intro w hSw; ((have q0 := hSw.cell cp)); go_simp; first | done | with_reducible rfl)); try simp only [Act.put, zB, zC, zD])
   refine wpAnyC_one (i := 3) (oi := ⟨some 29, _, _, _, _, _⟩) rfl (by kernel_rfl) (by decide) (fun K hK => ?_)
   rw [if_pos (by rfl)]
   go_simp
   refine (HFR.out _).mono ?_
   rintro e wx ⟨rfl, hxx⟩
   have hHeld2 := hHeld.trans hxx
   refine hK.out _ _ hHeld2 ?_
   clear hHeld
   have hHeld := hHeld2
   clear hHeld2
   clear hK K
   try simp only [Act.put, zB, zC, zD]
   (refine aC [7, 12] (i := 5) (oi := ⟨some 31, _, _, _, _, _⟩) (v := ?_) rfl ?_ hHeld ?_; rotate_left; (focus (intro w hSw; (skip); go_simp; first | done | with_reducible rfl)); try simp only [Act.put, zB, zC, zD])
   (refine aC [12] (i := 7) (oi := ⟨some 33, _, _, _, _, _⟩) (v := ?_) rfl ?_ hHeld ?_; rotate_left; (focus (intro w hSw; (skip); go_simp; first | done | with_reducible rfl)); try simp only [Act.put, zB, zC, zD])
   refine wpAnyC_c (oi := ⟨some 38, _, _, _, _, _⟩) rfl (by kernel_rfl) (fun K hK => ?_)
   rw [if_pos (by rfl)]
   go_simp
   refine (HC.out _ hHeld).mono ?_
   clear HC HFR HFI
   rintro e w4 ⟨sv', wv', rfl, hra, hx4⟩
   unfold rv
   refine hK.out _ _ ?_
   clear hK K
   try simp only [Act.put, zB, zC, zD]
   have hbx := blk_mod (F := fun _ => False) hrb.out.b0 (Mod.of_ext (hHeld.trans hx4)) (fun h => h)
   obtain ⟨xa, xn, xc, hsv⟩ := hra.safe.any
   obtain ⟨ya, yn, yc, hwv⟩ := hra.wait.any
   subst hsv
   subst hwv
   obtain ⟨d0, d1, d2, d3, d4, d5, g0, g1, g2, g3, g4, g5⟩ := box_facts hbx
   (refine aT (i := 13) (oi := ⟨some 25, _, _, _, _, _⟩) (v := ?_) rfl ?_ ?_; rotate_left; (focus (intro w; go_simp; first | done | with_reducible rfl)); try simp only [Act.put, zB, zC, zD])
   (refine aT (i := 14) (oi := ⟨some 39, _, _, _, _, _⟩) (v := ?_) rfl ?_ ?_; rotate_left; (focus (intro w; go_simp; first | done | with_reducible rfl)); try simp only [Act.put, zB, zC, zD])
   (refine aT (i := 15) (oi := ⟨some 40, _, _, _, _, _⟩) (v := ?_) rfl ?_ ?_; rotate_left; (focus (intro w; go_simp; first | done | with_reducible rfl)); try simp only [Act.put, zB, zC, zD])
   refine wpAny_one (i := 16) (oi := ⟨none, _, _, _, _, _⟩) rfl (by kernel_rfl) (fun K hK => ?_)
   rw [if_pos (by rfl)]
   go_simp
   have hm9 := mod_setCells (fun k => k = w.heap.size) w4 w.heap.size 0 [.int .i64 r2.n, .slice xa xn xc, .slice ya yn yc, .bool r2.armed, .bool r2.down, .int .i64 r2.after] rfl
   have hb9 := blk_setCells w.heap.size 33 [.int .i64 r2.n, .slice xa xn xc, .slice ya yn yc, .bool r2.armed, .bool r2.down, .int .i64 r2.after] 0 w4 _ hbx (by simp)
   show K _ (w4.setCells w.heap.size 0 [.int .i64 r2.n, .slice xa xn xc, .slice ya yn yc, .bool r2.armed, .bool r2.down, .int .i64 r2.after])
   generalize w4.setCells w.heap.size 0 [.int .i64 r2.n, .slice xa xn xc, .slice ya yn yc, .bool r2.armed, .bool r2.down, .int .i64 r2.after] = w9 at *
   refine hK.out _ _ ?_
   clear hK K
   try simp only [Act.put, zB, zC, zD]
   (refine aT (i := 17) (oi := ⟨some 14, _, _, _, _, _⟩) (v := ?_) rfl ?_ ?_; rotate_left; (focus (intro w; go_simp; first | done | with_reducible rfl)); try simp only [Act.put, zB, zC, zD])
   clear d0 d1 d2 d3 d4 d5 g0 g1 g2 g3 g4 g5
   refine wpAny_done (by kernel_rfl) ?_ _
   have HRB3 := qh ((hrb.out.after hHeld).put hx4 hra hm9 hb9)
   have HOW3 := qh (ownsRow_mod (ownsRow_mod how.out (Mod.of_ext (F := fun _ => False) (hHeld.trans hx4)) (fun _ _ h => h)) hm9 (fun k hk e => hgz.out k hk e))
   have hl2 : R4.len r2 <= L0 + (k + 1) := by have := HLN.out; omega
   have HR2 : Hid (Rel (W5.layTo d gen record (Z + at_) s (k + 1)).1 r2) := by unfold Hid; rw [HSU.out]; exact HQ.out.1
   have HE2 : Hid ((W5.layTo d gen record (Z + at_) s (k + 1)).2 = k2) := by unfold Hid; rw [HSU.out]; exact HQ.out.2
   clear HSU HQ HLN hHeld hHX hx4 hra hm9 hb9 hbx how hrb
   clear c0 c1 c2 c3 c4 c5 f0 f1 f2 f3 f4 f5 cp
   by_cases hz : k2 = 0
   ·subst hz
    go_wp2
    go_roundw
    case rel => exact ⟨k + 1, r2, _, _, _, _, _, _, by omega, by go_num, hl2, HR2, HE2, HRB3, HOW3⟩
    case measure => (simp [intOf]; try omega)
   ·have hzn : (k2 != 0) = true := by rw [bne_iff_ne]; exact hz
    have HST : Hid (W5.layTo d gen record (Z + at_) s N = W5.layTo d gen record (Z + at_) s (k + 1)) := hst.out (by rw [HE2.out]; exact hz)
    have HL2 : Hid (R4.len r2 <= L0 + N) := by unfold Hid; omega
    clear hst hz
    obtain ⟨c0, c1, c2, c3, c4, c5, f0, f1, f2, f3, f4, f5⟩ := box_facts HRB3.out.b0
    go_wp2_with (first
     | ((with_reducible show wpList _ _ _ (⟨none, Op.store _ (Operand.tmp 10) _, _, _, _, _⟩ :: _) _ _); refine wpl_store_all _ rfl 33 _ _ rfl (w.heap.size + 1) 33 [_, _, _, _, _, _] HRB3.out.b1 rfl [.int .i64 r2.n, .slice xa xn xc, .slice ya yn yc, .bool r2.armed, .bool r2.down, .int .i64 r2.after] rfl rfl size_d4 (by simp [Value.oneCell']) ?_; intro w9 hbn hmn hszn; have HFIN := qh (HRB3.out.fin hmn); clear c0 c1 c2 c3 c4 c5 f0 f1 f2 f3 f4 f5; obtain ⟨d0, d1, d2, d3, d4, d5, g0, g1, g2, g3, g4, g5⟩ := box_facts hbn; clear hbn hmn hszn)
     | fail)
    refine bodyPost_ret (v := .tuple #[.agg #[.int .i64 r2.n, .slice xa xn xc, .slice ya yn yc, .bool r2.armed, .bool r2.down, .int .i64 r2.after], .int .i64 k2]) (by simp [results, Tryz.results73, go_sem, d0, d1, d2, d3, d4, d5]) rfl ?_
    rw [HST.out, HE2.out]
    exact ⟨r2, HR2.out, HL2.out, _, _, rfl, HFIN.out.1, HFIN.out.2⟩
  ·obtain rfl : k = N := by omega
   go_wp2_with (first
    | ((with_reducible show wpList _ _ _ (⟨none, Op.store _ (Operand.tmp 10) _, _, _, _, _⟩ :: _) _ _); refine wpl_store_all _ rfl 33 _ _ rfl (w.heap.size + 1) 33 [_, _, _, _, _, _] hrb.out.b1 rfl [.int .i64 r1.n, .slice pa pn pc, .slice qa qn qc, .bool r1.armed, .bool r1.down, .int .i64 r1.after] rfl rfl size_d4 (by simp [Value.oneCell']) ?_; intro w9 hbn hmn hszn; have HFIN := qh (hrb.out.fin hmn); clear c0 c1 c2 c3 c4 c5 f0 f1 f2 f3 f4 f5; obtain ⟨d0, d1, d2, d3, d4, d5, g0, g1, g2, g3, g4, g5⟩ := box_facts hbn; clear hbn hmn hszn)
    | fail)
   refine bodyPost_ret (v := .tuple #[.agg #[.int .i64 r1.n, .slice pa pn pc, .slice qa qn qc, .bool r1.armed, .bool r1.down, .int .i64 r1.after], .int .i64 0]) (by simp [results, Tryz.results73, go_sem, d0, d1, d2, d3, d4, d5]) rfl ?_
   rw [he.out]
   exact ⟨r1, hq1.out, hl1, _, _, rfl, HFIN.out.1, HFIN.out.2⟩
theorem begTo_stop_lt {d : D.Dsk} {gen : Nat} {ls : List (List UInt8)} {k n : Nat} (h : (W5.begTo d gen ls k).2 ≠ 0) (hk : k <= n) : W5.begTo d gen ls n = W5.begTo d gen ls k := W5.begTo_stop d gen ls k h n hk
theorem refBegin (r : Ref4) (X : Nat -> Prop) (sv wv : Value) (d : D.Dsk) (hrel0 : Rel d r) (hn1 : 1 <= d.n) (hn2 : d.n <= 4096) (gen : Nat) (lv : Value) (ls : List (List UInt8)) (w : World) (h : RefAt w X r sv wv) (hlen : R4.len r <= 800000) (hg : gen < 4294967296) (hlv : Reads w lv (ls.map strV)) (hus : W5.used ls <= 2047) (hs : ∀ b ∈ ls, b.length <= 8192) :
 Calls Tryz.prog 76 #[rv r sv wv, .int .u32 (gen : Int), lv] w fun e w' => ∃ r', Rel (W5.begin_ d gen ls).1 r' /\ R4.len r' <= R4.len r + W5.used ls + 1 /\ RefOut w w' X r' (W5.begin_ d gen ls).2 e := by
 have hll := W5.len_le_used ls
 have hRB := RB.start h
 have HREL0 := qh hrel0
 obtain ⟨sa, sn, sc, hsv⟩ := h.safe.any
 obtain ⟨wa, wn, wc', hwv⟩ := h.wait.any
 subst hsv
 subst hwv
 obtain ⟨la, lc, rfl⟩ := str_shape hlv
 have HAT := qh (fun (v : World) (hv : Ext w v) j hj => str_at (hlv.ext hv) j hj)
 have hgi : (gen : Int) < 4294967296 := by omega
 have HG := qh hg
 have HS := qh hs
 have HN1 := qh hn1
 have HN2 := qh hn2
 have HBG := qh (show W5.begin_ d gen ls = _ from W5.begin_.eq_1 d gen ls)
 generalize hL0 : R4.len r = L0 at *
 generalize hU : W5.used ls = U at *
 have HUL := qh (fun k => show W5.usedTo ls k <= U by rw [<- hU]; exact W5.usedTo_le ls k)
 unfold RefOut
 unfold rv
 clear h hrel0 hg hs hn1 hn2 hlv hU
 go_enter Tryz.func76, Tryz.ntmps76
 go_upto_region 1 with (fail)
 generalize ((w.alloc (.cells #[.int .i64 r.n, .slice sa sn sc, .slice wa wn wc', .bool r.armed, .bool r.down, .int .i64 r.after] 33)).alloc (.cells #[.int .i64 0, .slice none 0 0, .slice none 0 0, .bool false, .bool false, .int .i64 0] 33)) = w1 at *
 have HRB := qh hRB
 clear hRB
 go_wp2
 go_loopw [8, 9, 10] (fun av ev iv wr => ∃ (k : Nat) (r1 : Ref4) (pa qa : Option Addr) (pn pc qn qc : Nat), k <= ls.length /\ iv = .int .i64 (k : Int) /\ av = .int .i64 (W5.usedTo ls k : Int) /\ R4.len r1 <= L0 + W5.usedTo ls k /\ Hid (Rel (W5.begTo d gen ls k).1 r1) /\ Hid ((W5.begTo d gen ls k).2 = 0) /\ Hid (RB w wr X r1 (.slice pa pn pc) (.slice qa qn qc)) /\ (∃ n : Int, ev = .int .i64 n)) (fun _ _ iv _ => ls.length - (intOf iv).toNat)
 case atStart => exact ⟨0, r, _, _, _, _, _, _, by omega, rfl, rfl, (by show _ <= L0 + 0; omega), HREL0, rfl, HRB, 0, rfl⟩
 case round =>
  obtain ⟨k, r1, pa, qa, pn, pc, qn, qc, hk, rfl, rfl, hl1, hq1, he, hrb, ⟨n0, rfl⟩⟩ := hrel
  clear HRB HREL0
  obtain ⟨c0, c1, c2, c3, c4, c5, f0, f1, f2, f3, f4, f5⟩ := box_facts hrb.out.b0
  by_cases hlt : k < ls.length
  ·have hlti : (k : Int) < (ls.length : Int) := by omega
   obtain ⟨b, off, rfl, cp⟩ := HAT.out wr hrb.out.ext k hlt
   have hbl := HS.out ls[k] (List.getElem_mem hlt)
   have hul := HUL.out k
   have hul2 := HUL.out (k + 1)
   have hus2 := W5.usedTo_succ ls k hlt
   have hgd : ls.getD k [] = ls[k] := W5.getD_eq ls k hlt
   have hsu : W5.begTo d gen ls (k + 1) = W5.lay (W5.begTo d gen ls k).1 gen k (W5.usedTo ls k) ls[k] := by rw [<- hgd]; exact if_pos he.out
   have hst : Hid ((W5.begTo d gen ls (k + 1)).2 ≠ 0 -> W5.begTo d gen ls ls.length = W5.begTo d gen ls (k + 1)) := fun h => begTo_stop_lt h hlt
   have hdn := W5.begTo_n d gen ls k
   have hnr := fun w => refNeed_any (ls[k].length : Int) w (by omega) (by omega)
   rw [W5.need_nat] at hnr
   have HNR := qh hnr
   have HCP : Hid (∀ v, Ext w v -> v.cell? ⟨b, off + k, none⟩ = some (.string ⟨ls[k].toArray⟩)) := fun v hv => by
    obtain ⟨b2, o2, he2, hc2⟩ := HAT.out v hv k hlt
    cases he2
    exact hc2
   have hsz : (⟨ls[k].toArray⟩ : ByteArray).size = ls[k].length := by show ls[k].toArray.size = _; rw [List.size_toArray]
   generalize W5.begTo d gen ls k = DK at *
   generalize hU2 : W5.usedTo ls (k + 1) = U2 at *
   generalize W5.usedTo ls k = U1 at *
   generalize ls[k] = P at *
   have hU1i : (U1 : Int) <= 2047 := by omega
   have hU2i : (U2 : Int) <= 2047 := by omega
   have hki : (k : Int) <= 2047 := by omega
   have HC : Hid (∀ v, Ext wr v -> Calls Tryz.prog 73 #[.agg #[.int .i64 r1.n, .slice pa pn pc, .slice qa qn qc, .bool r1.armed, .bool r1.down, .int .i64 r1.after], .int .u32 (gen : Int), .int .i64 (k : Int), .int .i64 (U1 : Int), .string ⟨P.toArray⟩] v fun e w' => ∃ r', Rel (W5.lay DK.1 gen k U1 P).1 r' /\ R4.len r' <= R4.len r1 + W5.need P.length /\ RefOut v w' (New X w v) r' (W5.lay DK.1 gen k U1 P).2 e) :=
    fun v hv => refLay r1 _ (.slice pa pn pc) (.slice qa qn qc) DK.1 hq1.out (by rw [hdn]; exact HN1.out) (by rw [hdn]; exact HN2.out) gen k U1 P v (hrb.out.after hv).at_ (by omega) HG.out (by omega) (by omega) hbl
   have HUS := qh hus2
   have HSU := qh hsu
   generalize hLD : W5.lay DK.1 gen k U1 P = LD at *
   obtain ⟨LD1, LD2⟩ := LD
   simp only at HC HSU
   have hnp := need_17 P.length hbl
   generalize W5.need P.length = ND at *
   have hNi : (ND : Int) <= 17 := by omega
   have hHX := Ext.of_drew wr
   have hsum : (U1 : Int) + (ND : Int) = (U2 : Int) := by omega
   clear hsu hdn he hq1 hnr hus2 hgd hLD
   go_wp2_with fail
   have hHeld := hHX
   refine wp_region_C (fun w' => Ext wr w') 8 (by kernel_rfl) ?_
   (refine aC [8] (i := 0) (oi := ⟨some 18, _, _, _, _, _⟩) (v := ?_) rfl ?_ hHeld ?_; rotate_left; (focus (intro w hSw; ((have q0 := hSw.cell c0; have q1 := hSw.cell c1; have q2 := hSw.cell c2; have q3 := hSw.cell c3; have q4 := hSw.cell c4; have q5 := hSw.cell c5)); go_simp; first | done | with_reducible rfl)); try simp only [Act.put, zB, zC, zD])
   (refine aC [8] (i := 1) (oi := ⟨some 19, _, _, _, _, _⟩) (v := ?_) rfl ?_ hHeld ?_; rotate_left; (focus (intro w hSw; (skip); go_simp; first | done | with_reducible rfl)); try simp only [Act.put, zB, zC, zD])
   (refine aC [8] (i := 2) (oi := ⟨some 20, _, _, _, _, _⟩) (v := ?_) rfl ?_ hHeld ?_; rotate_left; (focus (intro w hSw; (skip); go_simp; first | done | with_reducible rfl)); try simp only [Act.put, zB, zC, zD])
   (refine aC [8] (i := 3) (oi := ⟨some 21, _, _, _, _, _⟩) (v := ?_) rfl ?_ hHeld ?_; rotate_left; (focus (intro w hSw; (skip); go_simp; first | done | with_reducible rfl)); try simp only [Act.put, zB, zC, zD])
   (refine aC [6, 7, 8] (i := 4) (oi := ⟨some 22, _, _, _, _, _⟩) (v := ?_) rfl ?_ hHeld ?_; rotate_left; (focus (intro w hSw; (skip); go_simp; first | done | with_reducible rfl)); try simp only [Act.put, zB, zC, zD])
   (refine aC [6, 7, 8] (i := 5) (oi := ⟨some 23, _, _, _, _, _⟩) (v := ?_) rfl ?_ hHeld ?_; rotate_left; (focus (intro w hSw; (skip); go_simp; first | done | with_reducible rfl)); try simp only [Act.put, zB, zC, zD])
   (refine aC [7, 8] (i := 6) (oi := ⟨some 24, _, _, _, _, _⟩) (v := ?_) rfl ?_ hHeld ?_; rotate_left; (focus (intro w hSw; (skip); go_simp; first | done | with_reducible rfl)); try simp only [Act.put, zB, zC, zD])
   (refine aC [8] (i := 7) (oi := ⟨some 25, _, _, _, _, _⟩) (v := ?_) rfl ?_ hHeld ?_; rotate_left; (focus (intro w hSw; ((have q0 := hSw.cell cp)); go_simp; first | done | with_reducible rfl)); try simp only [Act.put, zB, zC, zD])
   refine wpAnyC_c (oi := ⟨some 26, _, _, _, _, _⟩) rfl (by kernel_rfl) (fun K hK => ?_)
   rw [if_pos (by rfl)]
   go_simp
   refine (HC.out _ hHeld).mono ?_
   clear HC
   rintro e w4 ⟨r2, hr2, hl2, sv', wv', rfl, hra, hx4⟩
   unfold rv
   refine hK.out _ _ ?_
   clear hK K
   try simp only [Act.put, zB, zC, zD]
   have hbx := blk_mod (F := fun _ => False) hrb.out.b0 (Mod.of_ext (hHeld.trans hx4)) (fun h => h)
   obtain ⟨xa, xn, xc, hsv⟩ := hra.safe.any
   obtain ⟨ya, yn, yc, hwv⟩ := hra.wait.any
   subst hsv
   subst hwv
   obtain ⟨d0, d1, d2, d3, d4, d5, g0, g1, g2, g3, g4, g5⟩ := box_facts hbx
   (refine aT (i := 9) (oi := ⟨some 17, _, _, _, _, _⟩) (v := ?_) rfl ?_ ?_; rotate_left; (focus (intro w; go_simp; first | done | with_reducible rfl)); try simp only [Act.put, zB, zC, zD])
   (refine aT (i := 10) (oi := ⟨some 27, _, _, _, _, _⟩) (v := ?_) rfl ?_ ?_; rotate_left; (focus (intro w; go_simp; first | done | with_reducible rfl)); try simp only [Act.put, zB, zC, zD])
   (refine aT (i := 11) (oi := ⟨some 28, _, _, _, _, _⟩) (v := ?_) rfl ?_ ?_; rotate_left; (focus (intro w; go_simp; first | done | with_reducible rfl)); try simp only [Act.put, zB, zC, zD])
   refine wpAny_one (i := 12) (oi := ⟨none, _, _, _, _, _⟩) rfl (by kernel_rfl) (fun K hK => ?_)
   rw [if_pos (by rfl)]
   go_simp
   have hm9 := mod_setCells (fun k => k = w.heap.size) w4 w.heap.size 0 [.int .i64 r2.n, .slice xa xn xc, .slice ya yn yc, .bool r2.armed, .bool r2.down, .int .i64 r2.after] rfl
   have hb9 := blk_setCells w.heap.size 33 [.int .i64 r2.n, .slice xa xn xc, .slice ya yn yc, .bool r2.armed, .bool r2.down, .int .i64 r2.after] 0 w4 _ hbx (by simp)
   show K _ (w4.setCells w.heap.size 0 [.int .i64 r2.n, .slice xa xn xc, .slice ya yn yc, .bool r2.armed, .bool r2.down, .int .i64 r2.after])
   generalize w4.setCells w.heap.size 0 [.int .i64 r2.n, .slice xa xn xc, .slice ya yn yc, .bool r2.armed, .bool r2.down, .int .i64 r2.after] = w9 at *
   refine hK.out _ _ ?_
   clear hK K
   try simp only [Act.put, zB, zC, zD]
   (refine aT (i := 13) (oi := ⟨some 9, _, _, _, _, _⟩) (v := ?_) rfl ?_ ?_; rotate_left; (focus (intro w; go_simp; first | done | with_reducible rfl)); try simp only [Act.put, zB, zC, zD])
   clear d0 d1 d2 d3 d4 d5 g0 g1 g2 g3 g4 g5
   refine wpAny_done (by kernel_rfl) ?_ _
   have HRB3 := qh ((hrb.out.after hHeld).put hx4 hra hm9 hb9)
   have hl3 : R4.len r2 <= L0 + U2 := by omega
   have HR2 : Hid (Rel (W5.begTo d gen ls (k + 1)).1 r2) := by unfold Hid; rw [HSU.out]; exact hr2
   have HE2 : Hid ((W5.begTo d gen ls (k + 1)).2 = LD2) := by unfold Hid; rw [HSU.out]
   clear HSU hHeld hHX hx4 hra hm9 hb9 hbx hrb hr2
   clear c0 c1 c2 c3 c4 c5 f0 f1 f2 f3 f4 f5 cp
   by_cases hz : LD2 = 0
   ·subst hz
    have cp := HCP.out w9 HRB3.out.ext
    go_wp2_with fail
    refine (HNR.out _).mono ?_
    rintro e w5 ⟨rfl, rfl⟩
    go_wp2
    go_roundw
    case rel => exact ⟨k + 1, r2, _, _, _, _, _, _, by omega, by go_num, by rw [hU2], by rw [hU2]; exact hl3, HR2, HE2, HRB3, _, rfl⟩
    case measure => (simp [intOf]; try omega)
   ·have hzn : (LD2 != 0) = true := by rw [bne_iff_ne]; exact hz
    have HST : Hid (W5.begTo d gen ls ls.length = W5.begTo d gen ls (k + 1)) := hst.out (by rw [HE2.out]; exact hz)
    have HBE : Hid (W5.begin_ d gen ls = W5.begTo d gen ls (k + 1)) := by unfold Hid; rw [HBG.out, if_neg (by rw [HST.out, HE2.out]; exact hz), HST.out]
    have HL2 : Hid (R4.len r2 <= L0 + U + 1) := by unfold Hid; omega
    clear hst hz
    obtain ⟨c0, c1, c2, c3, c4, c5, f0, f1, f2, f3, f4, f5⟩ := box_facts HRB3.out.b0
    go_wp2_with (first
     | ((with_reducible show wpList _ _ _ (⟨none, Op.store _ (Operand.tmp 6) _, _, _, _, _⟩ :: _) _ _); refine wpl_store_all _ rfl 33 _ _ rfl (w.heap.size + 1) 33 [_, _, _, _, _, _] HRB3.out.b1 rfl [.int .i64 r2.n, .slice xa xn xc, .slice ya yn yc, .bool r2.armed, .bool r2.down, .int .i64 r2.after] rfl rfl size_d4 (by simp [Value.oneCell']) ?_; intro w9 hbn hmn hszn; have HFIN := qh (HRB3.out.fin hmn); clear c0 c1 c2 c3 c4 c5 f0 f1 f2 f3 f4 f5; obtain ⟨d0, d1, d2, d3, d4, d5, g0, g1, g2, g3, g4, g5⟩ := box_facts hbn; clear hbn hmn hszn)
     | fail)
    refine bodyPost_ret (v := .tuple #[.agg #[.int .i64 r2.n, .slice xa xn xc, .slice ya yn yc, .bool r2.armed, .bool r2.down, .int .i64 r2.after], .int .i64 LD2]) (by simp [results, Tryz.results76, go_sem, d0, d1, d2, d3, d4, d5]) rfl ?_
    rw [HBE.out, HE2.out]
    exact ⟨r2, HR2.out, HL2.out, _, _, rfl, HFIN.out.1, HFIN.out.2⟩
  ·obtain rfl : k = ls.length := by omega
   have hua : W5.usedTo ls ls.length <= U := HUL.out ls.length
   have hlr : r1.safe.length + r1.wait.length <= 1000000 := by unfold R4.len at hl1; omega
   have HC : Hid (Calls Tryz.prog 74 #[.agg #[.int .i64 r1.n, .slice pa pn pc, .slice qa qn qc, .bool r1.armed, .bool r1.down, .int .i64 r1.after]] wr fun e w' => RefOut wr w' (New X w wr) (R4.flush r1).1 (R4.flush r1).2 e) :=
    ref_flush r1 _ (.slice pa pn pc) (.slice qa qn qc) wr hrb.out.at_ hlr
   rw [if_pos he.out] at HBG
   have HQ := qh (hq1.out.flush)
   have hln := flush_len r1
   generalize W5.begTo d gen ls ls.length = DK at *
   generalize R4.flush r1 = RES at *
   obtain ⟨r2, k2⟩ := RES
   simp only at HC HQ hln
   rw [HQ.out.2] at HBG
   clear he hq1
   generalize W5.usedTo ls ls.length = U1 at *
   go_wp2_with fail
   refine HC.out.mono ?_
   clear HC
   rintro e w4 ⟨sv', wv', rfl, hra, hx4⟩
   unfold rv
   obtain ⟨xa, xn, xc, hsv⟩ := hra.safe.any
   obtain ⟨ya, yn, yc, hwv⟩ := hra.wait.any
   subst hsv
   subst hwv
   have hB4 := qh (hrb.out.after hx4)
   clear c0 c1 c2 c3 c4 c5 f0 f1 f2 f3 f4 f5
   obtain ⟨c0, c1, c2, c3, c4, c5, f0, f1, f2, f3, f4, f5⟩ := box_facts hB4.out.b0
   by_cases hz : k2 = 0
   ·subst hz
    rw [if_pos (rfl : (0 : Int) = 0)] at HBG
    go_wp2_with (first
     | ((with_reducible show wpList _ _ _ (⟨none, Op.store _ (Operand.tmp 3) _, _, _, _, _⟩ :: _) _ _); refine wpl_store_all _ rfl 33 _ _ rfl w.heap.size 33 [_, _, _, _, _, _] hB4.out.b0 rfl [.int .i64 r2.n, .slice xa xn xc, .slice ya yn yc, .bool r2.armed, .bool r2.down, .int .i64 r2.after] rfl rfl size_d4 (by simp [Value.oneCell']) ?_; intro w5 hbn hmn hszn; have HRB5 := qh (hrb.out.put hx4 hra hmn hbn); clear c0 c1 c2 c3 c4 c5 f0 f1 f2 f3 f4 f5 hbn hmn hszn; obtain ⟨c0, c1, c2, c3, c4, c5, f0, f1, f2, f3, f4, f5⟩ := box_facts HRB5.out.b0)
     | fail)
    clear hrb hB4 hra hx4
    have hg2 : gen % 2 < 2 := Nat.mod_lt _ (by omega)
    have HLA := qh (HQ.out.1.lay ((gen % 2 : Nat) : Int) (W5.head gen))
    have hll2 := lay_len r2 ((gen % 2 : Nat) : Int) (W5.head gen)
    have hwl : r2.wait.length + 1 <= 1000000 := by unfold R4.len at hln hl1; omega
    have HC : Hid (∀ v, Ext w5 v -> Calls Tryz.prog 99 #[.agg #[.int .i64 r2.n, .slice xa xn xc, .slice ya yn yc, .bool r2.armed, .bool r2.down, .int .i64 r2.after], .int .i64 ((gen % 2 : Nat) : Int), .string ⟨(W5.head gen).toArray⟩] v fun e w' => RefOut v w' (New X w v) (R4.lay r2 ((gen % 2 : Nat) : Int) (W5.head gen)).1 (R4.lay r2 ((gen % 2 : Nat) : Int) (W5.head gen)).2 e) :=
     fun v hv => ref_lay r2 _ (.slice xa xn xc) (.slice ya yn yc) _ (W5.head gen) v (HRB5.out.after hv).at_ hwl (by rw [W5.head_len]; omega)
    have HHD := qh (fun w => refHead gen w HG.out)
    have htm : (gen : Int).tmod 2 = ((gen % 2 : Nat) : Int) := by rw [Int.ofNat_tmod]; rfl
    generalize W5.head gen = HD at *
    generalize gen % 2 = g2 at *
    generalize R4.lay r2 (g2 : Int) HD = RES at *
    obtain ⟨r3, k3⟩ := RES
    simp only at HC HLA hll2
    rw [HLA.out.2] at HBG
    unfold strV at HHD
    have hHX := Ext.of_drew w5
    have hg2i : (g2 : Int) < 2 := by omega
    go_wp2_with fail
    have hHeld := hHX
    refine wp_region_C (fun w' => Ext w5 w') 6 (by kernel_rfl) ?_
    (refine aC [6] (i := 0) (oi := ⟨some 51, _, _, _, _, _⟩) (v := ?_) rfl ?_ hHeld ?_; rotate_left; (focus (intro w hSw; ((have q0 := hSw.cell c0; have q1 := hSw.cell c1; have q2 := hSw.cell c2; have q3 := hSw.cell c3; have q4 := hSw.cell c4; have q5 := hSw.cell c5)); go_simp; first | done | with_reducible rfl)); try simp only [Act.put, zB, zC, zD])
    (refine aC [2, 3, 6] (i := 1) (oi := ⟨some 52, _, _, _, _, _⟩) (v := ?_) rfl ?_ hHeld ?_; rotate_left; (focus (intro w hSw; (skip); go_simp; first | done | with_reducible rfl)); try simp only [Act.put, zB, zC, zD])
    (refine aC [3, 6] (i := 2) (oi := ⟨some 53, _, _, _, _, _⟩) (v := ?_) rfl ?_ hHeld ?_; rotate_left; (focus (intro w hSw; (skip); go_simp; first | done | with_reducible rfl)); try simp only [Act.put, zB, zC, zD])
    (refine aC [6] (i := 3) (oi := ⟨some 54, _, _, _, _, _⟩) (v := ?_) rfl ?_ hHeld ?_; rotate_left; (focus (intro w hSw; (skip); go_simp; first | done | with_reducible rfl)); try simp only [Act.put, zB, zC, zD])
    (refine aC [5, 6] (i := 4) (oi := ⟨some 55, _, _, _, _, _⟩) (v := ?_) rfl ?_ hHeld ?_; rotate_left; (focus (intro w hSw; (skip); go_simp; first | done | with_reducible rfl)); try simp only [Act.put, zB, zC, zD])
    refine wpAnyC_one (i := 5) (oi := ⟨some 56, _, _, _, _, _⟩) rfl (by kernel_rfl) (by decide) (fun K hK => ?_)
    rw [if_pos (by rfl)]
    go_simp
    refine (HHD.out _).mono ?_
    rintro e wx ⟨rfl, hxx⟩
    have hHeld2 := hHeld.trans hxx
    refine hK.out _ _ hHeld2 ?_
    clear hHeld
    have hHeld := hHeld2
    clear hHeld2
    clear hK K
    try simp only [Act.put, zB, zC, zD]
    refine wpAnyC_c (oi := ⟨some 57, _, _, _, _, _⟩) rfl (by kernel_rfl) (fun K hK => ?_)
    rw [if_pos (by rfl)]
    go_simp
    rw [show IntKind.i64.wrap (g2 : Int) = (g2 : Int) by rw [IntKind.wrap_i64]; omega]
    refine (HC.out _ hHeld).mono ?_
    clear HC HHD
    rintro e w6 ⟨sv', wv', rfl, hra, hx6⟩
    unfold rv
    refine hK.out _ _ ?_
    clear hK K
    try simp only [Act.put, zB, zC, zD]
    have hbx := blk_mod (F := fun _ => False) HRB5.out.b0 (Mod.of_ext (hHeld.trans hx6)) (fun h => h)
    obtain ⟨ua, un, uc, hsv⟩ := hra.safe.any
    obtain ⟨va, vn, vc, hwv⟩ := hra.wait.any
    subst hsv
    subst hwv
    obtain ⟨d0, d1, d2, d3, d4, d5, g0, g1, g2', g3, g4, g5⟩ := box_facts hbx
    (refine aT (i := 7) (oi := ⟨some 50, _, _, _, _, _⟩) (v := ?_) rfl ?_ ?_; rotate_left; (focus (intro w; go_simp; first | done | with_reducible rfl)); try simp only [Act.put, zB, zC, zD])
    (refine aT (i := 8) (oi := ⟨some 58, _, _, _, _, _⟩) (v := ?_) rfl ?_ ?_; rotate_left; (focus (intro w; go_simp; first | done | with_reducible rfl)); try simp only [Act.put, zB, zC, zD])
    (refine aT (i := 9) (oi := ⟨some 59, _, _, _, _, _⟩) (v := ?_) rfl ?_ ?_; rotate_left; (focus (intro w; go_simp; first | done | with_reducible rfl)); try simp only [Act.put, zB, zC, zD])
    refine wpAny_one (i := 10) (oi := ⟨none, _, _, _, _, _⟩) rfl (by kernel_rfl) (fun K hK => ?_)
    rw [if_pos (by rfl)]
    go_simp
    have hm9 := mod_setCells (fun k => k = w.heap.size) w6 w.heap.size 0 [.int .i64 r3.n, .slice ua un uc, .slice va vn vc, .bool r3.armed, .bool r3.down, .int .i64 r3.after] rfl
    have hb9 := blk_setCells w.heap.size 33 [.int .i64 r3.n, .slice ua un uc, .slice va vn vc, .bool r3.armed, .bool r3.down, .int .i64 r3.after] 0 w6 _ hbx (by simp)
    show K _ (w6.setCells w.heap.size 0 [.int .i64 r3.n, .slice ua un uc, .slice va vn vc, .bool r3.armed, .bool r3.down, .int .i64 r3.after])
    generalize w6.setCells w.heap.size 0 [.int .i64 r3.n, .slice ua un uc, .slice va vn vc, .bool r3.armed, .bool r3.down, .int .i64 r3.after] = w9 at *
    refine hK.out _ _ ?_
    clear hK K
    try simp only [Act.put, zB, zC, zD]
    (refine aT (i := 11) (oi := ⟨some 9, _, _, _, _, _⟩) (v := ?_) rfl ?_ ?_; rotate_left; (focus (intro w; go_simp; first | done | with_reducible rfl)); try simp only [Act.put, zB, zC, zD])
    clear d0 d1 d2 d3 d4 d5 g0 g1 g2' g3 g4 g5
    refine wpAny_done (by kernel_rfl) ?_ _
    have HRB7 := qh ((HRB5.out.after hHeld).put hx6 hra hm9 hb9)
    clear hHeld hHX hx6 hra hm9 hb9 hbx HRB5
    clear c0 c1 c2 c3 c4 c5 f0 f1 f2 f3 f4 f5
    obtain ⟨c0, c1, c2, c3, c4, c5, f0, f1, f2, f3, f4, f5⟩ := box_facts HRB7.out.b0
    by_cases hz : k3 = 0
    ·subst hz
     rw [if_pos (rfl : (0 : Int) = 0)] at HBG
     have hlr : r3.safe.length + r3.wait.length <= 1000000 := by unfold R4.len at hll2 hln hl1; omega
     have HC : Hid (Calls Tryz.prog 74 #[.agg #[.int .i64 r3.n, .slice ua un uc, .slice va vn vc, .bool r3.armed, .bool r3.down, .int .i64 r3.after]] w9 fun e w' => RefOut w9 w' (New X w w9) (R4.flush r3).1 (R4.flush r3).2 e) :=
      ref_flush r3 _ (.slice ua un uc) (.slice va vn vc) w9 HRB7.out.at_ hlr
     have HF := qh (HLA.out.1.flush)
     have hlf := flush_len r3
     generalize R4.flush r3 = RES at *
     obtain ⟨r4, k4⟩ := RES
     simp only at HC HF hlf
     rw [HF.out.2] at HBG
     have hl4 : R4.len r4 <= L0 + U + 1 := by omega
     go_wp2_with fail
     refine HC.out.mono ?_
     clear HC
     rintro e w10 ⟨sv', wv', rfl, hra, hx10⟩
     unfold rv
     obtain ⟨oa, on, oc, hsv⟩ := hra.safe.any
     obtain ⟨za, zn, zc, hwv⟩ := hra.wait.any
     subst hsv
     subst hwv
     have HB10 := qh (HRB7.out.after hx10)
     have HRA := qh (hra.more (new_new HRB7.out.ext hx10))
     clear hra hx10 hlf hl1 hln hll2 hlr htm hg2 hg2i hwl hxx hua hlt hk hll
     clear c0 c1 c2 c3 c4 c5 f0 f1 f2 f3 f4 f5
     have HL4 := qh hl4
     clear hl4
     go_wp2_with (first
      | ((with_reducible show wpList _ _ _ (⟨none, Op.store _ (Operand.tmp 6) _, _, _, _, _⟩ :: _) _ _); refine wpl_store_all _ rfl 33 _ _ rfl (w.heap.size + 1) 33 [_, _, _, _, _, _] HB10.out.b1 rfl [.int .i64 r4.n, .slice oa on oc, .slice za zn zc, .bool r4.armed, .bool r4.down, .int .i64 r4.after] rfl rfl size_d4 (by simp [Value.oneCell']) ?_; intro w11 hbn hmn hszn; have HFIN := qh (HB10.out.fin hmn); have HRA2 : Hid (RefAt w11 (New X w w11) r4 (.slice oa on oc) (.slice za zn zc)) := ((HRA.out.store5 HB10.out.b1 (by decide) hmn).more (fun k hk => hk.imp (fun a => a) (fun a => ⟨a.1, Nat.lt_of_lt_of_le a.2 hmn.size⟩))); obtain ⟨d0, d1, d2, d3, d4, d5, g0, g1, g2', g3, g4, g5⟩ := box_facts hbn; clear hbn hmn hszn)
      | fail)
     refine bodyPost_ret (v := .tuple #[.agg #[.int .i64 r4.n, .slice oa on oc, .slice za zn zc, .bool r4.armed, .bool r4.down, .int .i64 r4.after], .int .i64 k4]) (by simp [results, Tryz.results76, go_sem, d0, d1, d2, d3, d4, d5]) rfl ?_
     rw [HBG.out]
     exact ⟨r4, HF.out.1, HL4.out, _, _, rfl, HRA2.out, HFIN.out.2⟩
    ·have hzn : (k3 != 0) = true := by rw [bne_iff_ne]; exact hz
     rw [if_neg hz] at HBG
     have hl4 : R4.len r3 <= L0 + U + 1 := by omega
     clear hz
     go_wp2_with (first
      | ((with_reducible show wpList _ _ _ (⟨none, Op.store _ (Operand.tmp 6) _, _, _, _, _⟩ :: _) _ _); refine wpl_store_all _ rfl 33 _ _ rfl (w.heap.size + 1) 33 [_, _, _, _, _, _] HRB7.out.b1 rfl [.int .i64 r3.n, .slice ua un uc, .slice va vn vc, .bool r3.armed, .bool r3.down, .int .i64 r3.after] rfl rfl size_d4 (by simp [Value.oneCell']) ?_; intro w9 hbn hmn hszn; have HFIN := qh (HRB7.out.fin hmn); clear c0 c1 c2 c3 c4 c5 f0 f1 f2 f3 f4 f5; obtain ⟨d0, d1, d2, d3, d4, d5, g0, g1, g2, g3, g4, g5⟩ := box_facts hbn; clear hbn hmn hszn)
      | fail)
     refine bodyPost_ret (v := .tuple #[.agg #[.int .i64 r3.n, .slice ua un uc, .slice va vn vc, .bool r3.armed, .bool r3.down, .int .i64 r3.after], .int .i64 k3]) (by simp [results, Tryz.results76, go_sem, d0, d1, d2, d3, d4, d5]) rfl ?_
     rw [HBG.out]
     exact ⟨r3, HLA.out.1, hl4, _, _, rfl, HFIN.out.1, HFIN.out.2⟩
   ·have hzn : (k2 != 0) = true := by rw [bne_iff_ne]; exact hz
    rw [if_neg hz] at HBG
    have hl4 : R4.len r2 <= L0 + U + 1 := by omega
    clear hz
    go_wp2_with (first
     | ((with_reducible show wpList _ _ _ (⟨none, Op.store _ (Operand.tmp 3) _, _, _, _, _⟩ :: _) _ _); refine wpl_store_all _ rfl 33 _ _ rfl w.heap.size 33 [_, _, _, _, _, _] hB4.out.b0 rfl [.int .i64 r2.n, .slice xa xn xc, .slice ya yn yc, .bool r2.armed, .bool r2.down, .int .i64 r2.after] rfl rfl size_d4 (by simp [Value.oneCell']) ?_; intro w5 hbn hmn hszn; have HRB5 := qh (hrb.out.put hx4 hra hmn hbn); clear c0 c1 c2 c3 c4 c5 f0 f1 f2 f3 f4 f5 hbn hmn hszn; obtain ⟨c0, c1, c2, c3, c4, c5, f0, f1, f2, f3, f4, f5⟩ := box_facts HRB5.out.b0)
     | ((with_reducible show wpList _ _ _ (⟨none, Op.store _ (Operand.tmp 6) _, _, _, _, _⟩ :: _) _ _); refine wpl_store_all _ rfl 33 _ _ rfl (w.heap.size + 1) 33 [_, _, _, _, _, _] HRB5.out.b1 rfl [.int .i64 r2.n, .slice xa xn xc, .slice ya yn yc, .bool r2.armed, .bool r2.down, .int .i64 r2.after] rfl rfl size_d4 (by simp [Value.oneCell']) ?_; intro w9 hbn hmn hszn; have HFIN := qh (HRB5.out.fin hmn); clear c0 c1 c2 c3 c4 c5 f0 f1 f2 f3 f4 f5; obtain ⟨d0, d1, d2, d3, d4, d5, g0, g1, g2, g3, g4, g5⟩ := box_facts hbn; clear hbn hmn hszn)
     | fail)
    refine bodyPost_ret (v := .tuple #[.agg #[.int .i64 r2.n, .slice xa xn xc, .slice ya yn yc, .bool r2.armed, .bool r2.down, .int .i64 r2.after], .int .i64 k2]) (by simp [results, Tryz.results76, go_sem, d0, d1, d2, d3, d4, d5]) rfl ?_
    rw [HBG.out]
    exact ⟨r2, HQ.out.1, hl4, _, _, rfl, HFIN.out.1, HFIN.out.2⟩
end Go.Proofs.YtnjfioikpajhlaaGreat
namespace Go.Proofs.YtnjfioikpajhlaaGreat
open Go.RowKit
section
variable {P : Program} {ops : Array Oper} {rest : List Oper} {o : Oper} {a : Act} {Q : Exit -> Act -> World -> Prop}
theorem wpl_store_part (w : World) (hgd : o.guard = none) (ty : TypeId) (x y : Operand) (hop : o.op = .store ty x y) (b off : Nat) (e : TypeId) (cs : List Value) (hb : w.heap[b]? = some (.cells cs.toArray e (0, 0)))
 (hx : a.eval x = .pointer (some ⟨b, off, none⟩)) (v : Value) (hy : a.eval y = v) (L : List Value) (hv : v.cells = L.toArray) (cs2 : List Value) (hcs : cs.take off ++ L ++ cs.drop (off + L.length) = cs2)
 (hl : off + L.length <= cs.length) (hi : (P.info? ty).map (·.size) = some L.length) (h1 : ∀ v ∈ L, v.oneCell' = true)
 (h : ∀ w', w'.heap[b]? = some (.cells cs2.toArray e (0, 0)) -> Mod (fun k => k = b) w w' -> w'.heap.size = w.heap.size -> wpList P ops Q rest (a.put o.dst undef) w') : wpList P ops Q (o :: rest) a w := by
 have hst : ∀ (p : Addr) (u : Value), storeVar ty p u = storeVar ty p (.agg u.cells) := fun p u => rfl
 refine wpList_plain hgd fun K hK => ?_
 have hr := run_storeVar_mid (P := P) w b off ty L.toArray (fun j hj => by
  have hj' : off + j < cs.length := by simp at hj; omega
  exact ⟨by rw [blk_cell hb (off + j), List.getElem?_eq_getElem hj']; rfl, blk_free hb (off + j)⟩) (by simpa using hi) (all_oneCell_toArray h1)
 have h2 := blk_setCells b e L off w cs hb hl
 rw [hcs] at h2
 unfold Oper.wp execOp
 have hr2 : (storeVar ty ⟨b, off, none⟩ v).run P w = .ok () (w.setCells b off L) := by rw [hst, hv, hr]
 simp only [hop, hx, hy, Instr.storeAt, Instr.sureAddr, Sem.run_bind, Sem.run_pure, Result.andThen_ok, hr2]
 exact hK _ _ (h _ h2 (mod_setCells _ w b off L rfl) (size_setCells b L off w))
end
theorem nine_facts {v : World} {b : Nat} {a0 a1 a2 a3 a4 a5 a6 a7 a8 : Value} {e : TypeId} (h : v.heap[b]? = some (.cells #[a0, a1, a2, a3, a4, a5, a6, a7, a8] e (0, 0))) :
 v.cell? ⟨b, 0, none⟩ = some a0 /\ v.cell? ⟨b, 1, none⟩ = some a1 /\ v.cell? ⟨b, 2, none⟩ = some a2 /\ v.cell? ⟨b, 3, none⟩ = some a3 /\ v.cell? ⟨b, 4, none⟩ = some a4 /\ v.cell? ⟨b, 5, none⟩ = some a5 /\ v.cell? ⟨b, 6, none⟩ = some a6 /\ v.cell? ⟨b, 7, none⟩ = some a7 /\ v.cell? ⟨b, 8, none⟩ = some a8 /\
 v.frozen? ⟨b, 0, none⟩ = false /\ v.frozen? ⟨b, 1, none⟩ = false /\ v.frozen? ⟨b, 2, none⟩ = false /\ v.frozen? ⟨b, 3, none⟩ = false /\ v.frozen? ⟨b, 4, none⟩ = false /\ v.frozen? ⟨b, 5, none⟩ = false /\ v.frozen? ⟨b, 6, none⟩ = false /\ v.frozen? ⟨b, 7, none⟩ = false /\ v.frozen? ⟨b, 8, none⟩ = false := by
 have h2 : v.heap[b]? = some (.cells [a0, a1, a2, a3, a4, a5, a6, a7, a8].toArray e (0, 0)) := h
 exact ⟨blk_cell h2 0, blk_cell h2 1, blk_cell h2 2, blk_cell h2 3, blk_cell h2 4, blk_cell h2 5, blk_cell h2 6, blk_cell h2 7, blk_cell h2 8, blk_free h2 0, blk_free h2 1, blk_free h2 2, blk_free h2 3, blk_free h2 4, blk_free h2 5, blk_free h2 6, blk_free h2 7, blk_free h2 8⟩
theorem size_l5 : (Tryz.prog.info? 37).map (·.size) = some 9 := by kernel_rfl
def lgv (r : Ref4) (sv wv : Value) (gen : Nat) (lv : Value) (cl : Bool) : Value := .agg #[.int .i64 r.n, sv, wv, .bool r.armed, .bool r.down, .int .i64 r.after, .int .u32 (gen : Int), lv, .bool cl]
structure RefL (w : World) (X : Nat -> Prop) (L : W5.Lg) (r : Ref4) (sv wv lv : Value) : Prop where
 at_ : RefAt w X r sv wv
 rel : Rel L.d r
 row : w.ownsRow 0 9 1 lv L.recs.length (L.recs.map strV)
 rowX : ∀ k, lv.ownBlock = some k -> X k
structure W5.Good (L : W5.Lg) : Prop where
 n1 : 1 <= L.d.n
 n2 : L.d.n <= 4096
 fit : W5.used L.recs <= W5.area L.d
 len : ∀ b ∈ L.recs, b.length <= 8192
 gen : L.gen < 4294967296
def LogOut (w w' : World) (X : Nat -> Prop) (L : W5.Lg) (B : Nat) (c : Int) (e : Ending) : Prop :=
 ∃ r' sv' wv' lv', e = .returned (.tuple #[lgv r' sv' wv' L.gen lv' L.cl, .int .i64 c]) /\ RefL w' (New X w w') L r' sv' wv' lv' /\ R4.len r' <= B /\ Ext w w'
structure RLb (w v : World) (X : Nat -> Prop) (r : Ref4) (sv wv : Value) (gen : Nat) (lv : Value) (ls : List (List UInt8)) (cl : Bool) : Prop where
 at_ : RefAt v (New X w v) r sv wv
 row : v.ownsRow 0 9 1 lv ls.length (ls.map strV)
 rowX : ∀ k, lv.ownBlock = some k -> New X w v k
 b0 : v.heap[w.heap.size]? = some (.cells #[.int .i64 r.n, sv, wv, .bool r.armed, .bool r.down, .int .i64 r.after, .int .u32 (gen : Int), lv, .bool cl] 37 (0, 0))
 b1 : v.heap[w.heap.size + 1]? = some (.cells #[.int .i64 0, .slice none 0 0, .slice none 0 0, .bool false, .bool false, .int .i64 0, .int .u32 0, .slice none 0 0, .bool false] 37 (0, 0))
 ext : Ext w v
theorem New.up {X : Nat -> Prop} {w v v' : World} (h : v.heap.size <= v'.heap.size) : ∀ k, New X w v k -> New X w v' k := fun k hk => hk.imp (fun a => a) (fun a => ⟨a.1, Nat.lt_of_lt_of_le a.2 h⟩)
theorem RLb.after {w v v' : World} {X : Nat -> Prop} {r : Ref4} {sv wv lv : Value} {gen : Nat} {ls : List (List UInt8)} {cl : Bool} (h : RLb w v X r sv wv gen lv ls cl) (hx : Ext v v') : RLb w v' X r sv wv gen lv ls cl :=
 ⟨(h.at_.ext hx).more (New.up hx.size), hx.keptOwn h.row, fun k hk => New.up hx.size k (h.rowX k hk), blk_mod (F := fun _ => False) h.b0 (Mod.of_ext hx) (fun h => h), blk_mod (F := fun _ => False) h.b1 (Mod.of_ext hx) (fun h => h), h.ext.trans hx⟩
theorem RLb.put {w u v v' : World} {X : Nat -> Prop} {r r' : Ref4} {sv wv sv' wv' lv lv' : Value} {gen gen' : Nat} {ls ls' : List (List UInt8)} {cl cl' : Bool} (h : RLb w u X r sv wv gen lv ls cl) (hx : Ext u v) (hr : RefAt v (New X w v) r' sv' wv')
 (hrow : v.ownsRow 0 9 1 lv' ls'.length (ls'.map strV)) (hrX : ∀ k, lv'.ownBlock = some k -> New X w v k) (hm : Mod (fun k => k = w.heap.size) v v')
 (hb : v'.heap[w.heap.size]? = some (.cells #[.int .i64 r'.n, sv', wv', .bool r'.armed, .bool r'.down, .int .i64 r'.after, .int .u32 (gen' : Int), lv', .bool cl'] 37 (0, 0))) : RLb w v' X r' sv' wv' gen' lv' ls' cl' := by
 have h2 := h.after hx
 exact ⟨(hr.store5 h2.b0 (by decide) hm).more (New.up hm.size), ownsRow_mod hrow hm (own_ne hrow h2.b0 (by decide)), fun k hk => New.up hm.size k (hrX k hk), hb, blk_mod h2.b1 hm (by omega), hm.ext h2.ext (fun k e => by omega)⟩
theorem RLb.fin {w v v' : World} {X : Nat -> Prop} {r : Ref4} {sv wv lv : Value} {gen : Nat} {ls : List (List UInt8)} {cl : Bool} {L : W5.Lg} (h : RLb w v X r sv wv gen lv ls cl) (hm : Mod (fun k => k = w.heap.size + 1) v v') (hrel : Rel L.d r) (hls : L.recs = ls) : RefL v' (New X w v') L r sv wv lv /\ Ext w v' := by
 subst hls
 exact ⟨⟨(h.at_.store5 h.b1 (by decide) hm).more (New.up hm.size), hrel, ownsRow_mod h.row hm (own_ne h.row h.b1 (by decide)), fun k hk => New.up hm.size k (h.rowX k hk)⟩, hm.ext h.ext (fun k e => by omega)⟩
theorem two_boxes' (w : World) (A B : Array Value) (e1 e2 : TypeId) : ((w.alloc (.cells A e1)).alloc (.cells B e2)).heap[w.heap.size]? = some (.cells A e1 (0, 0)) /\ ((w.alloc (.cells A e1)).alloc (.cells B e2)).heap[w.heap.size + 1]? = some (.cells B e2 (0, 0)) := two_boxes w A B e1 e2 (Ext.refl _)
theorem RLb.start {w : World} {X : Nat -> Prop} {L : W5.Lg} {r : Ref4} {sv wv lv : Value} (h : RefL w X L r sv wv lv) :
 RLb w ((w.alloc (.cells #[.int .i64 r.n, sv, wv, .bool r.armed, .bool r.down, .int .i64 r.after, .int .u32 (L.gen : Int), lv, .bool L.cl] 37)).alloc (.cells #[.int .i64 0, .slice none 0 0, .slice none 0 0, .bool false, .bool false, .int .i64 0, .int .u32 0, .slice none 0 0, .bool false] 37)) X r sv wv L.gen lv L.recs L.cl := by
 have hx : Ext w ((w.alloc (.cells #[.int .i64 r.n, sv, wv, .bool r.armed, .bool r.down, .int .i64 r.after, .int .u32 (L.gen : Int), lv, .bool L.cl] 37)).alloc (.cells #[.int .i64 0, .slice none 0 0, .slice none 0 0, .bool false, .bool false, .int .i64 0, .int .u32 0, .slice none 0 0, .bool false] 37)) := (Ext.of_alloc w _).alloc _
 obtain ⟨h1, h2⟩ := two_boxes' w #[.int .i64 r.n, sv, wv, .bool r.armed, .bool r.down, .int .i64 r.after, .int .u32 (L.gen : Int), lv, .bool L.cl] #[.int .i64 0, .slice none 0 0, .slice none 0 0, .bool false, .bool false, .int .i64 0, .int .u32 0, .slice none 0 0, .bool false] 37 37
 exact ⟨h.at_.all hx, hx.keptOwn h.row, fun k hk => .inl (h.rowX k hk), h1, h2, hx⟩
theorem refRoom (L : W5.Lg) (r : Ref4) (sv wv lv : Value) (hsv : ∃ a n cap, sv = .slice a n cap) (hwv : ∃ a n cap, wv = .slice a n cap) (hn : L.d.n = r.n) (hg : W5.Good L) (w : World) (hl : Reads w lv (L.recs.map strV)) :
 Calls Tryz.prog 41 #[lgv r sv wv L.gen lv L.cl] w fun e w' => e = .returned (.int .i64 ((W5.area L.d : Int) - (W5.used L.recs : Int))) /\ Ext w w' := by
 have hn1 := hg.n1
 have hn2 := hg.n2
 have hal := W5.area_le L.d hn2
 have hae := W5.area_eq L.d
 have hfit := hg.fit
 have hlen := hg.len
 obtain ⟨d, gen, ls, cl⟩ := L
 simp only at hn hn1 hn2 hal hae hfit hlen hl ⊢
 obtain ⟨sa, sn, sc, rfl⟩ := hsv
 obtain ⟨wa, wn, wc', rfl⟩ := hwv
 have hus := fun (v : World) (hx : Ext w v) => refUsed lv ls (W5.area d) v (hl.ext hx) (fun b hb => Nat.le_trans (hlen b hb) (by decide)) (by omega)
 obtain ⟨la, lc, rfl⟩ := str_shape hl
 obtain ⟨rn, safe, wait, armed, down, after⟩ := r
 simp only at hn
 subst hn
 unfold lgv
 simp only
 have hx1 := Ext.of_alloc w (.cells #[.int .i64 d.n, .slice sa sn sc, .slice wa wn wc', .bool armed, .bool down, .int .i64 after, .int .u32 (gen : Int), .slice la ls.length lc, .bool cl] 37)
 obtain ⟨c0, c1, c2, c3, c4, c5, c6, c7, c8, f0, f1, f2, f3, f4, f5, f6, f7, f8⟩ := nine_facts (one_box w #[.int .i64 d.n, .slice sa sn sc, .slice wa wn wc', .bool armed, .bool down, .int .i64 after, .int .u32 (gen : Int), .slice la ls.length lc, .bool cl] 37 (Ext.refl _))
 clear f0 f1 f2 f3 f4 f5 f6 f7 f8 hg hl hlen c1 c2 c3 c4 c5 c6 c8
 go_enter Tryz.func41, Tryz.ntmps41
 go_upto_region 1 with (fail)
 generalize w.alloc (.cells #[.int .i64 d.n, .slice sa sn sc, .slice wa wn wc', .bool armed, .bool down, .int .i64 after, .int .u32 (gen : Int), .slice la ls.length lc, .bool cl] 37) = wb at *
 have hxn : ∀ n, Ext wb (wb.drewN n) := fun n => below_drewN (Ext.refl wb) n
 have ha : ∀ n, Calls Tryz.prog 37 #[.int .i64 d.n] (wb.drewN n) fun e w' => e = .returned (.int .i64 (W5.areaI d.n)) /\ w' = wb.drewN n := fun n => (refArea_any d.n (wb.drewN n) (by omega) (by omega)).mono (fun _ _ hh => ⟨hh.1, hh.2.symm⟩)
 have hu : ∀ n, Calls Tryz.prog 38 #[.slice la ls.length lc, .int .i64 (W5.area d : Int)] (wb.drewN n) fun e w' => e = .returned (.int .i64 (W5.used ls : Int)) /\ w' = wb.drewN n := fun n => (hus (wb.drewN n) (hx1.trans (hxn n))).mono (fun _ _ hh => ⟨by rw [hh.1, hh.2.1.1 hfit], hh.2.2.symm⟩)
 rw [hae] at ha
 clear hae hus
 generalize hU : W5.used ls = U at *
 generalize hA : W5.area d = A at *
 have hai : (A : Int) <= 2047 := by omega
 have HU := qh hU
 have HA := qh hA
 clear hU hA
 have hui : (U : Int) <= 2047 := by omega
 have HX1 := qh hx1
 clear hx1
 go_wp2_with fail
 go_quiet (first
  | (go_at_call 37; exact Calls.quiet_of_same (ha _))
  | (go_at_call 38; exact Calls.quiet_of_same (hu _)))
 go_wp2
 refine bodyPost_ret (v := .int .i64 ((A : Int) - (U : Int))) (by simp [results, Tryz.results41, go_sem]) rfl ⟨by rw [HU.out, HA.out], HX1.out.trans (hxn _)⟩
theorem size_sl : (Tryz.prog.info? 35).map (·.size) = some 1 := by kernel_rfl
theorem size_bo : (Tryz.prog.info? 4).map (·.size) = some 1 := by kernel_rfl
theorem size_u32 : (Tryz.prog.info? 34).map (·.size) = some 1 := by kernel_rfl
theorem refAppend (L : W5.Lg) (r : Ref4) (X : Nat -> Prop) (sv wv lv : Value) (s : List UInt8) (w : World) (h : RefL w X L r sv wv lv) (hgd : W5.Good L) (hlen : R4.len r <= 700000) (hs : s.length <= 100000) :
 Calls Tryz.prog 42 #[lgv r sv wv L.gen lv L.cl, .string ⟨s.toArray⟩] w fun e w' => LogOut w w' X (W5.append L s).1 (R4.len r + 18) (W5.append L s).2 e := by
 have hRL := RLb.start h
 have hn1 := hgd.n1
 have hn2 := hgd.n2
 have hal := W5.area_le L.d hn2
 have hae := W5.area_eq L.d
 have hfit := hgd.fit
 have hll := W5.len_le_used L.recs
 have HLEN := qh hgd.len
 have HGD := qh hgd
 have hgn := hgd.gen
 have HREL := qh h.rel
 have hrn := h.rel.n
 have HRM := qh (fun (v : World) (hv : Reads v lv (L.recs.map strV)) => refRoom L r sv wv lv h.at_.safe.any h.at_.wait.any hrn hgd v hv)
 obtain ⟨sa, sn, sc, hsv⟩ := h.at_.safe.any
 obtain ⟨wa, wn, wc', hwv⟩ := h.at_.wait.any
 subst hsv
 subst hwv
 obtain ⟨la, lc, rfl⟩ := str_shape (Reads.of_own h.row (str_one _))
 obtain ⟨d, gen, ls, cl⟩ := L
 have HAP := qh (W5.append_eq d gen ls cl s)
 have HAD := qh (W5.appended_eq d gen ls cl s)
 have HLD := qh (show W5.laid ⟨d, gen, ls, cl⟩ s = W5.lay d gen ls.length (W5.used ls) s from rfl)
 simp only at hn1 hn2 hal hae hfit hll HLEN hgn HREL hrn hRL HRM
 have hsz : (⟨s.toArray⟩ : ByteArray).size = s.length := by show s.toArray.size = _; rw [List.size_toArray]
 have hgi : (gen : Int) < 4294967296 := by omega
 have hsi : (s.length : Int) <= 100000 := by omega
 have HG := qh hgn
 generalize hB : R4.len r = B at *
 unfold LogOut
 unfold lgv at HRM ⊢
 try simp only
 try simp only at HRM
 clear h hgd hgn
 go_enter Tryz.func42, Tryz.ntmps42
 go_upto_region 1 with (fail)
 generalize ((w.alloc (.cells #[.int .i64 r.n, .slice sa sn sc, .slice wa wn wc', .bool r.armed, .bool r.down, .int .i64 r.after, .int .u32 (gen : Int), .slice la ls.length lc, .bool cl] 37)).alloc (.cells #[.int .i64 0, .slice none 0 0, .slice none 0 0, .bool false, .bool false, .int .i64 0, .int .u32 0, .slice none 0 0, .bool false] 37)) = w1 at *
 have HRL := qh hRL
 clear hRL
 obtain ⟨c0, c1, c2, c3, c4, c5, c6, c7, c8, f0, f1, f2, f3, f4, f5, f6, f7, f8⟩ := nine_facts HRL.out.b0
 cases cl with
 | true =>
  have HA : Hid (W5.append ⟨d, gen, ls, true⟩ s = (⟨d, gen, ls, true⟩, 7)) := HAP.out.trans (if_pos rfl)
  clear HAP HAD HLD
  go_wp2_with (first
   | ((with_reducible show wpList _ _ _ (⟨none, Op.store _ (Operand.tmp 4) _, _, _, _, _⟩ :: _) _ _); refine wpl_store_all _ rfl 37 _ _ rfl (w.heap.size + 1) 37 [_, _, _, _, _, _, _, _, _] HRL.out.b1 rfl [.int .i64 r.n, .slice sa sn sc, .slice wa wn wc', .bool r.armed, .bool r.down, .int .i64 r.after, .int .u32 (gen : Int), (.slice la ls.length lc), .bool true] rfl rfl size_l5 (by simp [Value.oneCell']) ?_; intro w9 hbn hmn hszn; have HFIN := qh (HRL.out.fin (L := ⟨d, gen, ls, true⟩) hmn HREL.out rfl); obtain ⟨d0, d1, d2, d3, d4, d5, d6, d7, d8, g0, g1, g2, g3, g4, g5, g6, g7, g8⟩ := nine_facts hbn; clear hbn hmn hszn)
   | fail)
  refine bodyPost_ret (v := .tuple #[.agg #[.int .i64 r.n, .slice sa sn sc, .slice wa wn wc', .bool r.armed, .bool r.down, .int .i64 r.after, .int .u32 (gen : Int), (.slice la ls.length lc), .bool true], .int .i64 (7)]) (by simp [results, Tryz.results42, go_sem, d0, d1, d2, d3, d4, d5, d6, d7, d8]) rfl ?_
  rw [HA.out]
  exact ⟨r, _, _, _, rfl, HFIN.out.1, by omega, HFIN.out.2⟩
 | false =>
  have HAP2 := qh (HAP.out.trans (if_neg (by decide)))
  clear HAP
  by_cases h8 : 8192 < s.length
  ·have h8i : (8192 : Int) < (s.length : Int) := by omega
   have HA : Hid (W5.append ⟨d, gen, ls, false⟩ s = (⟨d, gen, ls, false⟩, 2)) := HAP2.out.trans (if_pos h8)
   clear HAP2 HAD HLD h8
   go_wp2_with (first
    | ((with_reducible show wpList _ _ _ (⟨none, Op.store _ (Operand.tmp 4) _, _, _, _, _⟩ :: _) _ _); refine wpl_store_all _ rfl 37 _ _ rfl (w.heap.size + 1) 37 [_, _, _, _, _, _, _, _, _] HRL.out.b1 rfl [.int .i64 r.n, .slice sa sn sc, .slice wa wn wc', .bool r.armed, .bool r.down, .int .i64 r.after, .int .u32 (gen : Int), (.slice la ls.length lc), .bool false] rfl rfl size_l5 (by simp [Value.oneCell']) ?_; intro w9 hbn hmn hszn; have HFIN := qh (HRL.out.fin (L := ⟨d, gen, ls, false⟩) hmn HREL.out rfl); obtain ⟨d0, d1, d2, d3, d4, d5, d6, d7, d8, g0, g1, g2, g3, g4, g5, g6, g7, g8⟩ := nine_facts hbn; clear hbn hmn hszn)
    | fail)
   refine bodyPost_ret (v := .tuple #[.agg #[.int .i64 r.n, .slice sa sn sc, .slice wa wn wc', .bool r.armed, .bool r.down, .int .i64 r.after, .int .u32 (gen : Int), (.slice la ls.length lc), .bool false], .int .i64 (2)]) (by simp [results, Tryz.results42, go_sem, d0, d1, d2, d3, d4, d5, d6, d7, d8]) rfl ?_
   rw [HA.out]
   exact ⟨r, _, _, _, rfl, HFIN.out.1, by omega, HFIN.out.2⟩
  ·have h8i : decide ((8192 : Int) < (s.length : Int)) = false := decide_eq_false (by omega)
   have HAP3 := qh (HAP2.out.trans (if_neg h8))
   have hsl : s.length <= 8192 := by omega
   have hnr := fun w => refNeed_any (s.length : Int) w (by omega) (by omega)
   rw [W5.need_nat] at hnr
   have HNR := qh hnr
   have hnd := need_17 s.length hsl
   clear HAP2 h8 hnr
   generalize hND : W5.need s.length = N at *
   have HND := qh hND
   clear hND
   obtain ⟨M, hM⟩ : ∃ M : Nat, W5.area d = W5.used ls + M := ⟨W5.area d - W5.used ls, by omega⟩
   have hMe : (W5.area d : Int) - (W5.used ls : Int) = (M : Int) := by omega
   rw [hMe] at HRM
   have HM := qh hM
   have HUS : Hid (∀ (v : World) (hv : Reads v (.slice la ls.length lc) (ls.map strV)), Calls Tryz.prog 38 #[.slice la ls.length lc, .int .i64 (W5.area d : Int)] v fun e w' => e = .returned (.int .i64 (W5.used ls : Int)) /\ v = w') := fun v hv => (refUsed (.slice la ls.length lc) ls (W5.area d) v hv (fun b hb => Nat.le_trans (HLEN.out b hb) (by decide)) (by omega)).mono (fun e w' hh => ⟨by rw [hh.1, hh.2.1.1 hfit], hh.2.2⟩)
   have HFT := qh hfit
   have HAE := qh hae
   have HLL := qh hll
   have hul : W5.used ls <= 2047 := by omega
   clear hM hMe hfit hae hll
   generalize hUU : W5.used ls = U at *
   generalize hAA : W5.area d = A at *
   have hMi : (M : Int) <= 2047 := by have := HM.out; omega
   have hNi : (N : Int) <= 17 := by omega
   have hRD1 := fun (v : World) (hv : Ext w1 v) => Reads.of_own (HRL.out.after hv).row (str_one _)
   have HRMv := qh (fun (v : World) (hv : Ext w1 v) => HRM.out v (hRD1 v hv))
   have HCS := qh (fun (v : World) (hv : Ext w1 v) => nine_facts (HRL.out.after hv).b0)
   clear HRM hRD1
   clear f0 f1 f2 f3 f4 f5 f6 f7 f8
   have hx0 := Ext.of_drew w1
   by_cases h6 : M < N
   ·have h6d : decide (M < N) = true := decide_eq_true h6
    have HA : Hid (W5.append ⟨d, gen, ls, false⟩ s = (⟨d, gen, ls, false⟩, 6)) := HAP3.out.trans (if_pos (by have := HM.out; have := HND.out; omega))
    clear HAP3 HAD HLD h6
    go_wp2_with fail
    go_region_held3 (fun v => v.cell? ⟨w.heap.size, 0, none⟩ = some (.int .i64 r.n) /\ v.cell? ⟨w.heap.size, 1, none⟩ = some (.slice sa sn sc) /\ v.cell? ⟨w.heap.size, 2, none⟩ = some (.slice wa wn wc') /\ v.cell? ⟨w.heap.size, 3, none⟩ = some (.bool r.armed) /\ v.cell? ⟨w.heap.size, 4, none⟩ = some (.bool r.down) /\ v.cell? ⟨w.heap.size, 5, none⟩ = some (.int .i64 r.after) /\ v.cell? ⟨w.heap.size, 6, none⟩ = some (.int .u32 (gen : Int)) /\ v.cell? ⟨w.heap.size, 7, none⟩ = some (.slice la ls.length lc) /\ v.cell? ⟨w.heap.size, 8, none⟩ = some (.bool false)) (first | (have q := HCS.out _ hx0; exact ⟨q.1, q.2.1, q.2.2.1, q.2.2.2.1, q.2.2.2.2.1, q.2.2.2.2.2.1, q.2.2.2.2.2.2.1, q.2.2.2.2.2.2.2.1, q.2.2.2.2.2.2.2.2.1⟩) | (have q := HCS.out _ (hx0.trans hx5); exact ⟨q.1, q.2.1, q.2.2.1, q.2.2.2.1, q.2.2.2.2.1, q.2.2.2.2.2.1, q.2.2.2.2.2.2.1, q.2.2.2.2.2.2.2.1, q.2.2.2.2.2.2.2.2.1⟩)) (first
     | (go_at_call 40; refine (HNR.out _).mono ?_; rintro e w4 ⟨rfl, rfl⟩)
     | (go_at_call 41; refine (HRMv.out _ hx0).mono ?_; rintro e w5 ⟨rfl, hx5⟩))
    have HB5 := qh (HRL.out.after (hx0.trans hx5))
    clear hx0 hx5
    clear c0 c1 c2 c3 c4 c5 c6 c7 c8
    obtain ⟨c0, c1, c2, c3, c4, c5, c6, c7, c8, f0, f1, f2, f3, f4, f5, f6, f7, f8⟩ := nine_facts HB5.out.b0
    go_wp2_with (first
     | ((with_reducible show wpList _ _ _ (⟨none, Op.store _ (Operand.tmp 4) _, _, _, _, _⟩ :: _) _ _); refine wpl_store_all _ rfl 37 _ _ rfl (w.heap.size + 1) 37 [_, _, _, _, _, _, _, _, _] HB5.out.b1 rfl [.int .i64 r.n, .slice sa sn sc, .slice wa wn wc', .bool r.armed, .bool r.down, .int .i64 r.after, .int .u32 (gen : Int), (.slice la ls.length lc), .bool false] rfl rfl size_l5 (by simp [Value.oneCell']) ?_; intro w9 hbn hmn hszn; have HFIN := qh (HB5.out.fin (L := ⟨d, gen, ls, false⟩) hmn HREL.out rfl); obtain ⟨d0, d1, d2, d3, d4, d5, d6, d7, d8, g0, g1, g2, g3, g4, g5, g6, g7, g8⟩ := nine_facts hbn; clear hbn hmn hszn)
     | fail)
    refine bodyPost_ret (v := .tuple #[.agg #[.int .i64 r.n, .slice sa sn sc, .slice wa wn wc', .bool r.armed, .bool r.down, .int .i64 r.after, .int .u32 (gen : Int), (.slice la ls.length lc), .bool false], .int .i64 (6)]) (by simp [results, Tryz.results42, go_sem, d0, d1, d2, d3, d4, d5, d6, d7, d8]) rfl ?_
    rw [HA.out]
    exact ⟨r, _, _, _, rfl, HFIN.out.1, by omega, HFIN.out.2⟩
   ·have h6d : decide (M < N) = false := decide_eq_false h6
    have HAP4 := qh (HAP3.out.trans (if_neg (by have := HM.out; have := HND.out; omega)))
    clear HAP3 h6
    go_wp2_with fail
    go_region_held3 (fun v => v.cell? ⟨w.heap.size, 0, none⟩ = some (.int .i64 r.n) /\ v.cell? ⟨w.heap.size, 1, none⟩ = some (.slice sa sn sc) /\ v.cell? ⟨w.heap.size, 2, none⟩ = some (.slice wa wn wc') /\ v.cell? ⟨w.heap.size, 3, none⟩ = some (.bool r.armed) /\ v.cell? ⟨w.heap.size, 4, none⟩ = some (.bool r.down) /\ v.cell? ⟨w.heap.size, 5, none⟩ = some (.int .i64 r.after) /\ v.cell? ⟨w.heap.size, 6, none⟩ = some (.int .u32 (gen : Int)) /\ v.cell? ⟨w.heap.size, 7, none⟩ = some (.slice la ls.length lc) /\ v.cell? ⟨w.heap.size, 8, none⟩ = some (.bool false)) (first | (have q := HCS.out _ hx0; exact ⟨q.1, q.2.1, q.2.2.1, q.2.2.2.1, q.2.2.2.2.1, q.2.2.2.2.2.1, q.2.2.2.2.2.2.1, q.2.2.2.2.2.2.2.1, q.2.2.2.2.2.2.2.2.1⟩) | (have q := HCS.out _ (hx0.trans hx5); exact ⟨q.1, q.2.1, q.2.2.1, q.2.2.2.1, q.2.2.2.2.1, q.2.2.2.2.2.1, q.2.2.2.2.2.2.1, q.2.2.2.2.2.2.2.1, q.2.2.2.2.2.2.2.2.1⟩)) (first
     | (go_at_call 40; refine (HNR.out _).mono ?_; rintro e w4 ⟨rfl, rfl⟩)
     | (go_at_call 41; refine (HRMv.out _ hx0).mono ?_; rintro e w5 ⟨rfl, hx5⟩))
    have HB5 := qh (HRL.out.after (hx0.trans hx5))
    clear hx0 hx5 h6d
    clear c0 c1 c2 c3 c4 c5 c6 c7 c8
    obtain ⟨c0, c1, c2, c3, c4, c5, c6, c7, c8, f0, f1, f2, f3, f4, f5, f6, f7, f8⟩ := nine_facts HB5.out.b0
    have hHX := Ext.of_drew w5
    have HAR : Hid (∀ v, Calls Tryz.prog 37 #[.int .i64 r.n] v fun e w' => e = .returned (.int .i64 (A : Int)) /\ v = w') := fun v => by
     rw [<- hrn, <- HAE.out]
     exact refArea_any d.n v (by omega) (by omega)
    have HC : Hid (∀ v, Ext w5 v -> Calls Tryz.prog 73 #[.agg #[.int .i64 r.n, .slice sa sn sc, .slice wa wn wc', .bool r.armed, .bool r.down, .int .i64 r.after], .int .u32 (gen : Int), .int .i64 (ls.length : Int), .int .i64 (U : Int), .string ⟨s.toArray⟩] v fun e w' => ∃ r', Rel (W5.lay d gen ls.length U s).1 r' /\ R4.len r' <= B + N /\ RefOut v w' (New X w v) r' (W5.lay d gen ls.length U s).2 e) := fun v hv => by
     have := refLay r (New X w v) (.slice sa sn sc) (.slice wa wn wc') d HREL.out hn1 hn2 gen ls.length U s v (HB5.out.after hv).at_ (by omega) HG.out (by have := HLL.out; omega) (by omega) hsl
     rw [HND.out, hB] at this
     exact this
    rw [HLD.out] at HAD
    have hlsi : (ls.length : Int) <= 2047 := by have := HLL.out; omega
    have hUi : (U : Int) <= 2047 := by omega
    have hAi : (A : Int) <= 2047 := by omega
    clear HLD
    generalize W5.lay d gen ls.length U s = LD at *
    obtain ⟨DL, e1⟩ := LD
    simp only at HC HAD HAP4
    clear HNR HRMv HCS
    clear f0 f1 f2 f3 f4 f5 f6 f7 f8
    go_wp2_with fail
    have hHeld := hHX
    refine wp_region_C (fun w' => Ext w5 w') 15 (by kernel_rfl) ?_
    (refine aC [1, 15] (i := 0) (oi := ⟨some 22, _, _, _, _, _⟩) (v := ?_) rfl ?_ hHeld ?_; rotate_left; (focus (intro w hSw; (skip); go_simp; first | done | with_reducible rfl)); try simp only [Act.put, zB, zC, zD])
    (refine aC [15] (i := 1) (oi := ⟨some 23, _, _, _, _, _⟩) (v := ?_) rfl ?_ hHeld ?_; rotate_left; (focus (intro w hSw; ((have q0 := hSw.cell c0; have q1 := hSw.cell c1; have q2 := hSw.cell c2; have q3 := hSw.cell c3; have q4 := hSw.cell c4; have q5 := hSw.cell c5)); go_simp; first | done | with_reducible rfl)); try simp only [Act.put, zB, zC, zD])
    (refine aC [3, 15] (i := 2) (oi := ⟨some 24, _, _, _, _, _⟩) (v := ?_) rfl ?_ hHeld ?_; rotate_left; (focus (intro w hSw; (skip); go_simp; first | done | with_reducible rfl)); try simp only [Act.put, zB, zC, zD])
    (refine aC [15] (i := 3) (oi := ⟨some 25, _, _, _, _, _⟩) (v := ?_) rfl ?_ hHeld ?_; rotate_left; (focus (intro w hSw; ((have q := hSw.cell c6)); go_simp; first | done | with_reducible rfl)); try simp only [Act.put, zB, zC, zD])
    (refine aC [5, 6, 15] (i := 4) (oi := ⟨some 26, _, _, _, _, _⟩) (v := ?_) rfl ?_ hHeld ?_; rotate_left; (focus (intro w hSw; (skip); go_simp; first | done | with_reducible rfl)); try simp only [Act.put, zB, zC, zD])
    (refine aC [6, 15] (i := 5) (oi := ⟨some 27, _, _, _, _, _⟩) (v := ?_) rfl ?_ hHeld ?_; rotate_left; (focus (intro w hSw; ((have q := hSw.cell c7)); go_simp; first | done | with_reducible rfl)); try simp only [Act.put, zB, zC, zD])
    (refine aC [15] (i := 6) (oi := ⟨some 28, _, _, _, _, _⟩) (v := ?_) rfl ?_ hHeld ?_; rotate_left; (focus (intro w hSw; (skip); go_simp; first | done | with_reducible rfl)); try simp only [Act.put, zB, zC, zD])
    (refine aC [8, 13, 15] (i := 7) (oi := ⟨some 29, _, _, _, _, _⟩) (v := ?_) rfl ?_ hHeld ?_; rotate_left; (focus (intro w hSw; (skip); go_simp; first | done | with_reducible rfl)); try simp only [Act.put, zB, zC, zD])
    (refine aC [13, 15] (i := 8) (oi := ⟨some 30, _, _, _, _, _⟩) (v := ?_) rfl ?_ hHeld ?_; rotate_left; (focus (intro w hSw; ((have q := hSw.cell c7)); go_simp; first | done | with_reducible rfl)); try simp only [Act.put, zB, zC, zD])
    (refine aC [10, 11, 12, 13, 15] (i := 9) (oi := ⟨some 31, _, _, _, _, _⟩) (v := ?_) rfl ?_ hHeld ?_; rotate_left; (focus (intro w hSw; (skip); go_simp; first | done | with_reducible rfl)); try simp only [Act.put, zB, zC, zD])
    (refine aC [11, 12, 13, 15] (i := 10) (oi := ⟨some 32, _, _, _, _, _⟩) (v := ?_) rfl ?_ hHeld ?_; rotate_left; (focus (intro w hSw; (skip); go_simp; first | done | with_reducible rfl)); try simp only [Act.put, zB, zC, zD])
    (refine aC [12, 13, 15] (i := 11) (oi := ⟨some 33, _, _, _, _, _⟩) (v := ?_) rfl ?_ hHeld ?_; rotate_left; (focus (intro w hSw; ((have q := hSw.cell c0)); go_simp; first | done | with_reducible rfl)); try simp only [Act.put, zB, zC, zD])
    (refine aC [15] (i := 14) (oi := ⟨some 36, _, _, _, _, _⟩) (v := ?_) rfl ?_ hHeld ?_; rotate_left; (focus (intro w hSw; (skip); go_simp; first | done | with_reducible rfl)); try simp only [Act.put, zB, zC, zD])
    refine wpAnyC_one (i := 12) (oi := ⟨some 34, _, _, _, _, _⟩) rfl (by kernel_rfl) (by decide) (fun K hK => ?_)
    rw [if_pos (by rfl)]
    go_simp
    refine (HAR.out _).mono ?_
    rintro e wx ⟨rfl, rfl⟩
    refine hK.out _ _ hHeld ?_
    clear hK K
    try simp only [Act.put, zB, zC, zD]
    refine wpAnyC_one (i := 13) (oi := ⟨some 35, _, _, _, _, _⟩) rfl (by kernel_rfl) (by decide) (fun K hK => ?_)
    rw [if_pos (by rfl)]
    go_simp
    refine (HUS.out _ (Reads.of_own (HB5.out.after hHeld).row (str_one _))).mono ?_
    rintro e wx ⟨rfl, rfl⟩
    refine hK.out _ _ hHeld ?_
    clear hK K
    try simp only [Act.put, zB, zC, zD]
    refine wpAnyC_c (oi := ⟨some 37, _, _, _, _, _⟩) rfl (by kernel_rfl) (fun K hK => ?_)
    rw [if_pos (by rfl)]
    go_simp
    refine (HC.out _ hHeld).mono ?_
    clear HC HAR HUS
    rintro e w6 ⟨r2, hr2, hl2, sv', wv', rfl, hra, hx6⟩
    unfold rv
    refine hK.out _ _ ?_
    clear hK K
    try simp only [Act.put, zB, zC, zD]
    have hB6 := (HB5.out.after hHeld).after hx6
    obtain ⟨xa, xn, xc, hsv⟩ := hra.safe.any
    obtain ⟨ya, yn, yc, hwv⟩ := hra.wait.any
    subst hsv
    subst hwv
    obtain ⟨d0, d1, d2, d3, d4, d5, d6, d7, d8, g0, g1, g2, g3, g4, g5, g6, g7, g8⟩ := nine_facts hB6.b0
    (refine aT (i := 16) (oi := ⟨some 21, _, _, _, _, _⟩) (v := ?_) rfl ?_ ?_; rotate_left; (focus (intro w; go_simp; first | done | with_reducible rfl)); try simp only [Act.put, zB, zC, zD])
    (refine aT (i := 17) (oi := ⟨some 38, _, _, _, _, _⟩) (v := ?_) rfl ?_ ?_; rotate_left; (focus (intro w; go_simp; first | done | with_reducible rfl)); try simp only [Act.put, zB, zC, zD])
    (refine aT (i := 18) (oi := ⟨some 39, _, _, _, _, _⟩) (v := ?_) rfl ?_ ?_; rotate_left; (focus (intro w; go_simp; first | done | with_reducible rfl)); try simp only [Act.put, zB, zC, zD])
    (refine aT (i := 19) (oi := ⟨some 40, _, _, _, _, _⟩) (v := ?_) rfl ?_ ?_; rotate_left; (focus (intro w; go_simp; first | done | with_reducible rfl)); try simp only [Act.put, zB, zC, zD])
    refine wpAny_one (i := 20) (oi := ⟨none, _, _, _, _, _⟩) rfl (by kernel_rfl) (fun K hK => ?_)
    rw [if_pos (by rfl)]
    go_simp
    have hm9 := mod_setCells (fun k => k = w.heap.size) w6 w.heap.size 0 [.int .i64 r2.n, .slice xa xn xc, .slice ya yn yc, .bool r2.armed, .bool r2.down, .int .i64 r2.after] rfl
    have hb9 := blk_setCells w.heap.size 37 [.int .i64 r2.n, .slice xa xn xc, .slice ya yn yc, .bool r2.armed, .bool r2.down, .int .i64 r2.after] 0 w6 [.int .i64 r.n, .slice sa sn sc, .slice wa wn wc', .bool r.armed, .bool r.down, .int .i64 r.after, .int .u32 (gen : Int), (.slice la ls.length lc), .bool false] hB6.b0 (by simp)
    show K _ (w6.setCells w.heap.size 0 [.int .i64 r2.n, .slice xa xn xc, .slice ya yn yc, .bool r2.armed, .bool r2.down, .int .i64 r2.after])
    generalize w6.setCells w.heap.size 0 [.int .i64 r2.n, .slice xa xn xc, .slice ya yn yc, .bool r2.armed, .bool r2.down, .int .i64 r2.after] = w9 at *
    refine hK.out _ _ ?_
    clear hK K
    try simp only [Act.put, zB, zC, zD]
    (refine aT (i := 21) (oi := ⟨some 6, _, _, _, _, _⟩) (v := ?_) rfl ?_ ?_; rotate_left; (focus (intro w; go_simp; first | done | with_reducible rfl)); try simp only [Act.put, zB, zC, zD])
    refine wpAny_done (by kernel_rfl) ?_ _
    clear d0 d1 d2 d3 d4 d5 d6 d7 d8 g0 g1 g2 g3 g4 g5 g6 g7 g8
    have HRB := qh ((HB5.out.after hHeld).put hx6 (hra.more (new_new ((HB5.out.after hHeld).ext) hx6)) (hB6.row) (hB6.rowX) hm9 hb9)
    have HR2 := qh hr2
    clear hHeld hHX hx6 hra hm9 hb9 hB6 HB5 HRL hr2 HREL
    clear c0 c1 c2 c3 c4 c5 c6 c7 c8
    obtain ⟨c0, c1, c2, c3, c4, c5, c6, c7, c8, f0, f1, f2, f3, f4, f5, f6, f7, f8⟩ := nine_facts HRB.out.b0
    by_cases hz : e1 = 0
    ·subst hz
     have HAD2 := qh (HAD.out.trans (if_pos rfl))
     clear HAD
     have hlr : r2.safe.length + r2.wait.length <= 1000000 := by unfold R4.len at hl2; omega
     have HC : Hid (Calls Tryz.prog 74 #[.agg #[.int .i64 r2.n, .slice xa xn xc, .slice ya yn yc, .bool r2.armed, .bool r2.down, .int .i64 r2.after]] w9 fun e w' => RefOut w9 w' (New X w w9) (R4.flush r2).1 (R4.flush r2).2 e) :=
      ref_flush r2 _ (.slice xa xn xc) (.slice ya yn yc) w9 HRB.out.at_ hlr
     have HF := qh (HR2.out.flush)
     have hlf := flush_len r2
     generalize R4.flush r2 = RES at *
     obtain ⟨r3, e2⟩ := RES
     simp only at HC HF hlf
     rw [HF.out.2] at HAD2
     have hl3 : R4.len r3 <= B + 18 := by omega
     clear hlr hlf hl2
     go_wp2_with fail
     refine HC.out.mono ?_
     clear HC
     rintro e w10 ⟨sv', wv', rfl, hra, hx10⟩
     unfold rv
     obtain ⟨ua, un, uc, hsv⟩ := hra.safe.any
     obtain ⟨va, vn, vc, hwv⟩ := hra.wait.any
     subst hsv
     subst hwv
     have HRA := qh (hra.more (new_new HRB.out.ext hx10))
     have HX10 := qh hx10
     clear hra hx10
     clear c0 c1 c2 c3 c4 c5 c6 c7 c8 f0 f1 f2 f3 f4 f5 f6 f7 f8
     have HB10 := qh (HRB.out.after HX10.out)
     obtain ⟨c0, c1, c2, c3, c4, c5, c6, c7, c8, f0, f1, f2, f3, f4, f5, f6, f7, f8⟩ := nine_facts HB10.out.b0
     by_cases hz2 : e2 = 0
     ·subst hz2
      have HA : Hid (W5.append ⟨d, gen, ls, false⟩ s = (⟨D.flush DL, gen, ls ++ [s], false⟩, 0)) := by
       unfold Hid
       rw [HAP4.out, HAD2.out]
       rfl
      clear HAP4 HAD2
      obtain ⟨i0, hi0, hz0, hz1, hz2⟩ := info_parts info_str
      have hll2 : ls.length <= 2047 := by omega
      go_wp2_with (first
       | ((with_reducible show wpList _ _ _ (⟨none, Op.store _ (Operand.tmp 49) _, _, _, _, _⟩ :: _) _ _); refine wpl_store_part _ rfl _ (.tmp 49) (.tmp 47) rfl w.heap.size 0 37 [.int .i64 r2.n, .slice xa xn xc, .slice ya yn yc, .bool r2.armed, .bool r2.down, .int .i64 r2.after, .int .u32 (gen : Int), (.slice la ls.length lc), .bool false] HB10.out.b0 rfl (.agg #[.int .i64 r3.n, .slice ua un uc, .slice va vn vc, .bool r3.armed, .bool r3.down, .int .i64 r3.after]) rfl [.int .i64 r3.n, .slice ua un uc, .slice va vn vc, .bool r3.armed, .bool r3.down, .int .i64 r3.after] rfl [.int .i64 r3.n, .slice ua un uc, .slice va vn vc, .bool r3.armed, .bool r3.down, .int .i64 r3.after, .int .u32 (gen : Int), (.slice la ls.length lc), .bool false] rfl (by simp) size_d4 (by simp [Value.oneCell']) ?_; intro w11 hbn hmn hszn; have HRB2 := qh (HRB.out.put (gen' := gen) HX10.out HRA.out HB10.out.row HB10.out.rowX hmn hbn); clear c0 c1 c2 c3 c4 c5 c6 c7 c8 f0 f1 f2 f3 f4 f5 f6 f7 f8; obtain ⟨c0, c1, c2, c3, c4, c5, c6, c7, c8, f0, f1, f2, f3, f4, f5, f6, f7, f8⟩ := nine_facts HRB2.out.b0; clear hbn hmn hszn)
       | fail)
      clear HRB HRA HX10 HB10
      refine (refCopied (.slice la ls.length lc) ls w11 (Reads.of_own HRB2.out.row (str_one _)) (by omega)).mono ?_
      rintro e w12 ⟨v', rfl, hown12, hx12⟩
      obtain ⟨ca, cc, rfl⟩ := str_shape (Reads.of_own hown12 (str_one _))
      have hx13 := Ext.of_alloc w12 (.cells #[strV s] 9)
      have HB13 := qh (HRB2.out.after (hx12.trans hx13))
      have HO13 := qh (hx13.keptOwn hown12)
      have HRDS := qh (Reads.one w12 (strV s) 9 rfl)
      have HX13 := qh (hx12.trans hx13)
      have HS13 := qh (show w11.heap.size <= (w12.alloc (.cells #[strV s] 9)).heap.size by have := HX13.out.size; exact this)
      have HSZ := qh HRB2.out.ext.size
      have HL3 := qh hl3
      dsimp only
      clear hown12 hx12 hx13
      clear c0 c1 c2 c3 c4 c5 c6 c7 c8 f0 f1 f2 f3 f4 f5 f6 f7 f8
      have hsv : strV s = .string ⟨s.toArray⟩ := rfl
      rw [hsv] at HRDS HO13 HB13 HX13 HS13
      clear hsv
      clear hgi
      go_wp2_with (at_builtin; refine (?roundEnd : _))
      refine wpl_append _ rfl _ _ 35 rfl w11.heap.size 9 i0 (.string ⟨#[]⟩) 16 Tryz.underlying35 hi0 hz0 hz1 hz2 rfl _ ls.length (ls.map strV) (by rfl) HO13.out _ [.string ⟨s.toArray⟩] (by rfl) HRDS.out (by simp [maxLen]; omega) (by simp; omega) HS13.out ?_
      intro v9 w14 hown14 hgrow
      have HX14 := qh (HX13.out.grown hgrow (fun q hq => (HO13.out.lt q hq).1))
      have HO14 := qh hown14
      clear hown14 hgrow
      refine (?step9 : _)
      simp only [Act.put, zB, zC, zD]
      clear HB13 HX13 HS13 HO13 HRDS
      have HB14 := qh (HRB2.out.after HX14.out)
      have hown9 : w14.ownsRow w11.heap.size 9 1 v9 (ls ++ [s]).length ((ls ++ [s]).map strV) := by
       rw [List.map_append, List.length_append]; exact HO14.out
      have HROW := qh (ownsRow_base5 hown9 (Nat.zero_le _))
      have HRX : Hid (∀ k, v9.ownBlock = some k -> New X w w14 k) := fun k hk => .inr ⟨Nat.le_trans HSZ.out (hown9.lt k hk).1, (hown9.lt k hk).2⟩
      have h9s := str_shape (Reads.of_own hown9 (str_one _))
      obtain ⟨a9, k9, hv9⟩ := h9s
      generalize (ls ++ [s]).length = n9 at hv9
      subst hv9
      obtain ⟨c0, c1, c2, c3, c4, c5, c6, c7, c8, f0, f1, f2, f3, f4, f5, f6, f7, f8⟩ := nine_facts HB14.out.b0
      have HAT := qh HB14.out.at_
      clear HO14 hown9
      go_wp2_with (first
       | ((with_reducible show wpList _ _ _ (⟨none, Op.store _ (Operand.tmp 61) _, _, _, _, _⟩ :: _) _ _); refine wpl_store_part _ rfl _ (.tmp 61) (.tmp 60) rfl w.heap.size 7 37 [.int .i64 r3.n, .slice ua un uc, .slice va vn vc, .bool r3.armed, .bool r3.down, .int .i64 r3.after, .int .u32 (gen : Int), (.slice la ls.length lc), .bool false] HB14.out.b0 rfl (.slice a9 n9 k9) rfl [.slice a9 n9 k9] rfl [.int .i64 r3.n, .slice ua un uc, .slice va vn vc, .bool r3.armed, .bool r3.down, .int .i64 r3.after, .int .u32 (gen : Int), (.slice a9 n9 k9), .bool false] rfl (by simp) size_sl (by simp [Value.oneCell']) ?_; intro w15 hbn hmn hszn; have HRB3 := qh (HRB2.out.put (gen' := gen) (ls' := ls ++ [s]) (cl' := false) HX14.out HAT.out HROW.out HRX.out hmn hbn); clear c0 c1 c2 c3 c4 c5 c6 c7 c8 f0 f1 f2 f3 f4 f5 f6 f7 f8; obtain ⟨c0, c1, c2, c3, c4, c5, c6, c7, c8, f0, f1, f2, f3, f4, f5, f6, f7, f8⟩ := nine_facts HRB3.out.b0; clear hbn hmn hszn)
       | ((with_reducible show wpList _ _ _ (⟨none, Op.store _ (Operand.tmp 4) _, _, _, _, _⟩ :: _) _ _); refine wpl_store_all _ rfl 37 _ _ rfl (w.heap.size + 1) 37 [_, _, _, _, _, _, _, _, _] HRB3.out.b1 rfl [.int .i64 r3.n, .slice ua un uc, .slice va vn vc, .bool r3.armed, .bool r3.down, .int .i64 r3.after, .int .u32 (gen : Int), (.slice a9 n9 k9), .bool false] rfl rfl size_l5 (by simp [Value.oneCell']) ?_; intro w9 hbn hmn hszn; have HFIN := qh (HRB3.out.fin (L := ⟨D.flush DL, gen, ls ++ [s], false⟩) hmn HF.out.1 rfl); obtain ⟨d0, d1, d2, d3, d4, d5, d6, d7, d8, g0, g1, g2, g3, g4, g5, g6, g7, g8⟩ := nine_facts hbn; clear hbn hmn hszn)
       | fail)
      refine bodyPost_ret (v := .tuple #[.agg #[.int .i64 r3.n, .slice ua un uc, .slice va vn vc, .bool r3.armed, .bool r3.down, .int .i64 r3.after, .int .u32 (gen : Int), (.slice a9 n9 k9), .bool false], .int .i64 (0)]) (by simp [results, Tryz.results42, go_sem, d0, d1, d2, d3, d4, d5, d6, d7, d8]) rfl ?_
      rw [HA.out]
      exact ⟨r3, _, _, _, rfl, HFIN.out.1, HL3.out, HFIN.out.2⟩
     ·have hzn : (e2 != 0) = true := by rw [bne_iff_ne]; exact hz2
      have HA : Hid (W5.append ⟨d, gen, ls, false⟩ s = (⟨D.flush DL, gen, ls, true⟩, e2)) := by
       unfold Hid
       rw [HAP4.out, HAD2.out]
       exact if_neg hz2
      clear HAP4 HAD2 hz2
      go_wp2_with (first
       | ((with_reducible show wpList _ _ _ (⟨none, Op.store _ (Operand.tmp 49) _, _, _, _, _⟩ :: _) _ _); refine wpl_store_part _ rfl _ (.tmp 49) (.tmp 47) rfl w.heap.size 0 37 [.int .i64 r2.n, .slice xa xn xc, .slice ya yn yc, .bool r2.armed, .bool r2.down, .int .i64 r2.after, .int .u32 (gen : Int), (.slice la ls.length lc), .bool false] HB10.out.b0 rfl (.agg #[.int .i64 r3.n, .slice ua un uc, .slice va vn vc, .bool r3.armed, .bool r3.down, .int .i64 r3.after]) rfl [.int .i64 r3.n, .slice ua un uc, .slice va vn vc, .bool r3.armed, .bool r3.down, .int .i64 r3.after] rfl [.int .i64 r3.n, .slice ua un uc, .slice va vn vc, .bool r3.armed, .bool r3.down, .int .i64 r3.after, .int .u32 (gen : Int), (.slice la ls.length lc), .bool false] rfl (by simp) size_d4 (by simp [Value.oneCell']) ?_; intro w11 hbn hmn hszn; have HRB2 := qh (HRB.out.put (gen' := gen) HX10.out HRA.out HB10.out.row HB10.out.rowX hmn hbn); clear c0 c1 c2 c3 c4 c5 c6 c7 c8 f0 f1 f2 f3 f4 f5 f6 f7 f8; obtain ⟨c0, c1, c2, c3, c4, c5, c6, c7, c8, f0, f1, f2, f3, f4, f5, f6, f7, f8⟩ := nine_facts HRB2.out.b0; clear hbn hmn hszn)
       | ((with_reducible show wpList _ _ _ (⟨none, Op.store _ (Operand.tmp 52) _, _, _, _, _⟩ :: _) _ _); refine wpl_store_part _ rfl _ (.tmp 52) (.const (.bool true)) rfl w.heap.size 8 37 [.int .i64 r3.n, .slice ua un uc, .slice va vn vc, .bool r3.armed, .bool r3.down, .int .i64 r3.after, .int .u32 (gen : Int), (.slice la ls.length lc), .bool false] HRB2.out.b0 rfl (.bool true) rfl [.bool true] rfl [.int .i64 r3.n, .slice ua un uc, .slice va vn vc, .bool r3.armed, .bool r3.down, .int .i64 r3.after, .int .u32 (gen : Int), (.slice la ls.length lc), .bool true] rfl (by simp) size_bo (by simp [Value.oneCell']) ?_; intro w13 hbn hmn hszn; have HRB3 := qh (HRB2.out.put (gen' := gen) (ls' := ls) (cl' := true) (Ext.refl _) HRB2.out.at_ HRB2.out.row HRB2.out.rowX hmn hbn); clear c0 c1 c2 c3 c4 c5 c6 c7 c8 f0 f1 f2 f3 f4 f5 f6 f7 f8; obtain ⟨c0, c1, c2, c3, c4, c5, c6, c7, c8, f0, f1, f2, f3, f4, f5, f6, f7, f8⟩ := nine_facts HRB3.out.b0; clear hbn hmn hszn)
       | ((with_reducible show wpList _ _ _ (⟨none, Op.store _ (Operand.tmp 4) _, _, _, _, _⟩ :: _) _ _); refine wpl_store_all _ rfl 37 _ _ rfl (w.heap.size + 1) 37 [_, _, _, _, _, _, _, _, _] HRB3.out.b1 rfl [.int .i64 r3.n, .slice ua un uc, .slice va vn vc, .bool r3.armed, .bool r3.down, .int .i64 r3.after, .int .u32 (gen : Int), (.slice la ls.length lc), .bool true] rfl rfl size_l5 (by simp [Value.oneCell']) ?_; intro w9 hbn hmn hszn; have HFIN := qh (HRB3.out.fin (L := ⟨D.flush DL, gen, ls, true⟩) hmn HF.out.1 rfl); obtain ⟨d0, d1, d2, d3, d4, d5, d6, d7, d8, g0, g1, g2, g3, g4, g5, g6, g7, g8⟩ := nine_facts hbn; clear hbn hmn hszn)
       | fail)
      refine bodyPost_ret (v := .tuple #[.agg #[.int .i64 r3.n, .slice ua un uc, .slice va vn vc, .bool r3.armed, .bool r3.down, .int .i64 r3.after, .int .u32 (gen : Int), (.slice la ls.length lc), .bool true], .int .i64 (e2)]) (by simp [results, Tryz.results42, go_sem, d0, d1, d2, d3, d4, d5, d6, d7, d8]) rfl ?_
      rw [HA.out]
      exact ⟨r3, _, _, _, rfl, HFIN.out.1, hl3, HFIN.out.2⟩
    ·have hzn : (e1 != 0) = true := by rw [bne_iff_ne]; exact hz
     have hze : (e1 == 0) = false := by rw [beq_eq_false_iff_ne]; exact hz
     have HA : Hid (W5.append ⟨d, gen, ls, false⟩ s = (⟨DL, gen, ls, true⟩, e1)) := by
      unfold Hid
      rw [HAP4.out, HAD.out.trans (if_neg hz)]
      exact if_neg hz
     clear HAP4 HAD hz
     go_wp2_with (first
      | ((with_reducible show wpList _ _ _ (⟨none, Op.store _ (Operand.tmp 52) _, _, _, _, _⟩ :: _) _ _); refine wpl_store_part _ rfl _ (.tmp 52) (.const (.bool true)) rfl w.heap.size 8 37 [.int .i64 r2.n, .slice xa xn xc, .slice ya yn yc, .bool r2.armed, .bool r2.down, .int .i64 r2.after, .int .u32 (gen : Int), (.slice la ls.length lc), .bool false] HRB.out.b0 rfl (.bool true) rfl [.bool true] rfl [.int .i64 r2.n, .slice xa xn xc, .slice ya yn yc, .bool r2.armed, .bool r2.down, .int .i64 r2.after, .int .u32 (gen : Int), (.slice la ls.length lc), .bool true] rfl (by simp) size_bo (by simp [Value.oneCell']) ?_; intro w13 hbn hmn hszn; have HRB3 := qh (HRB.out.put (gen' := gen) (ls' := ls) (cl' := true) (Ext.refl _) HRB.out.at_ HRB.out.row HRB.out.rowX hmn hbn); clear c0 c1 c2 c3 c4 c5 c6 c7 c8 f0 f1 f2 f3 f4 f5 f6 f7 f8; obtain ⟨c0, c1, c2, c3, c4, c5, c6, c7, c8, f0, f1, f2, f3, f4, f5, f6, f7, f8⟩ := nine_facts HRB3.out.b0; clear hbn hmn hszn)
      | ((with_reducible show wpList _ _ _ (⟨none, Op.store _ (Operand.tmp 4) _, _, _, _, _⟩ :: _) _ _); refine wpl_store_all _ rfl 37 _ _ rfl (w.heap.size + 1) 37 [_, _, _, _, _, _, _, _, _] HRB3.out.b1 rfl [.int .i64 r2.n, .slice xa xn xc, .slice ya yn yc, .bool r2.armed, .bool r2.down, .int .i64 r2.after, .int .u32 (gen : Int), (.slice la ls.length lc), .bool true] rfl rfl size_l5 (by simp [Value.oneCell']) ?_; intro w9 hbn hmn hszn; have HFIN := qh (HRB3.out.fin (L := ⟨DL, gen, ls, true⟩) hmn HR2.out rfl); obtain ⟨d0, d1, d2, d3, d4, d5, d6, d7, d8, g0, g1, g2, g3, g4, g5, g6, g7, g8⟩ := nine_facts hbn; clear hbn hmn hszn)
      | fail)
     refine bodyPost_ret (v := .tuple #[.agg #[.int .i64 r2.n, .slice xa xn xc, .slice ya yn yc, .bool r2.armed, .bool r2.down, .int .i64 r2.after, .int .u32 (gen : Int), (.slice la ls.length lc), .bool true], .int .i64 (e1)]) (by simp [results, Tryz.results42, go_sem, d0, d1, d2, d3, d4, d5, d6, d7, d8]) rfl ?_
     rw [HA.out]
     exact ⟨r2, _, _, _, rfl, HFIN.out.1, by omega, HFIN.out.2⟩
end Go.Proofs.YtnjfioikpajhlaaGreat
namespace Go.Proofs.YtnjfioikpajhlaaGreat
open Go.RowKit
theorem refRenew (L : W5.Lg) (r : Ref4) (X : Nat -> Prop) (sv wv lv nv : Value) (nl : List (List UInt8)) (w : World) (h : RefL w X L r sv wv lv) (hn1 : 1 <= L.d.n) (hn2 : L.d.n <= 4096) (hgn : L.gen < 4294967296) (hlen : R4.len r <= 700000) (hnv : Reads w nv (nl.map strV)) (hnl : nl.length <= 100000) (hnb : ∀ b ∈ nl, b.length <= 1000000) :
 Calls Tryz.prog 43 #[lgv r sv wv L.gen lv L.cl, nv] w fun e w' => LogOut w w' X (W5.renew L nl).1 (R4.len r + 2048) (W5.renew L nl).2 e := by
 have hRL := RLb.start h
 have hal := W5.area_le L.d hn2
 have hae := W5.area_eq L.d
 have HREL := qh h.rel
 have hrn := h.rel.n
 obtain ⟨sa, sn, sc, hsv⟩ := h.at_.safe.any
 obtain ⟨wa, wn, wc', hwv⟩ := h.at_.wait.any
 subst hsv
 subst hwv
 obtain ⟨la, lc, rfl⟩ := str_shape (Reads.of_own h.row (str_one _))
 generalize L.recs.length = nrec at *
 obtain ⟨na, nc, rfl⟩ := str_shape hnv
 obtain ⟨d, gen, ls, cl⟩ := L
 have HRN := qh (W5.renew_eq d gen ls cl nl)
 simp only at hn1 hn2 hal hae hgn HREL hrn hRL
 have HNV := qh (fun (v : World) (hv : Ext w v) => hnv.ext hv)
 have HNB := qh hnb
 have hgi : (gen : Int) < 4294967296 := by omega
 generalize hB : R4.len r = B at *
 have hnli : (nl.length : Int) <= 100000 := by omega
 have HU1 := qh (fun (v : World) (hv : Ext w v) => refUsed (.slice na nl.length nc) nl (W5.area d) v (hnv.ext hv) hnb (by omega))
 unfold UsedE at HU1
 unfold LogOut
 unfold lgv
 try simp only
 clear h hgn hnv hnb
 go_enter Tryz.func43, Tryz.ntmps43
 go_upto_region 1 with (fail)
 generalize ((w.alloc (.cells #[.int .i64 r.n, .slice sa sn sc, .slice wa wn wc', .bool r.armed, .bool r.down, .int .i64 r.after, .int .u32 (gen : Int), .slice la nrec lc, .bool cl] 37)).alloc (.cells #[.int .i64 0, .slice none 0 0, .slice none 0 0, .bool false, .bool false, .int .i64 0, .int .u32 0, .slice none 0 0, .bool false] 37)) = w1 at *
 have HRL := qh hRL
 clear hRL
 obtain ⟨c0, c1, c2, c3, c4, c5, c6, c7, c8, f0, f1, f2, f3, f4, f5, f6, f7, f8⟩ := nine_facts HRL.out.b0
 cases cl with
 | true =>
  have HA : Hid (W5.renew ⟨d, gen, ls, true⟩ nl = (⟨d, gen, ls, true⟩, 7)) := HRN.out.trans (if_pos rfl)
  clear HRN
  go_wp2_with (first
   | ((with_reducible show wpList _ _ _ (⟨none, Op.store _ (Operand.tmp 4) _, _, _, _, _⟩ :: _) _ _); refine wpl_store_all _ rfl 37 _ _ rfl (w.heap.size + 1) 37 [_, _, _, _, _, _, _, _, _] HRL.out.b1 rfl [.int .i64 r.n, .slice sa sn sc, .slice wa wn wc', .bool r.armed, .bool r.down, .int .i64 r.after, .int .u32 (gen : Int), (.slice la nrec lc), .bool true] rfl rfl size_l5 (by simp [Value.oneCell']) ?_; intro w9 hbn hmn hszn; have HFIN := qh (HRL.out.fin (L := ⟨d, gen, ls, true⟩) hmn HREL.out rfl); obtain ⟨d0, d1, d2, d3, d4, d5, d6, d7, d8, g0, g1, g2, g3, g4, g5, g6, g7, g8⟩ := nine_facts hbn; clear hbn hmn hszn)
   | fail)
  refine bodyPost_ret (v := .tuple #[.agg #[.int .i64 r.n, .slice sa sn sc, .slice wa wn wc', .bool r.armed, .bool r.down, .int .i64 r.after, .int .u32 (gen : Int), (.slice la nrec lc), .bool true], .int .i64 (7)]) (by simp [results, Tryz.results43, go_sem, d0, d1, d2, d3, d4, d5, d6, d7, d8]) rfl ?_
  rw [HA.out]
  exact ⟨r, _, _, _, rfl, HFIN.out.1, by omega, HFIN.out.2⟩
 | false =>
  have HR2 := qh (HRN.out.trans (if_neg (by decide)))
  clear HRN
  clear f0 f1 f2 f3 f4 f5 f6 f7 f8
  have HXW := qh HRL.out.ext
  go_wp2_with fail
  go_loopw [6] (fun iv wr => ∃ k : Nat, k <= nl.length /\ iv = .int .i64 (k : Int) /\ Hid (∀ j (h : j < nl.length), j < k -> nl[j].length <= 8192) /\ w1 = wr) (fun iv _ => nl.length - (intOf iv).toNat)
  case atStart => exact ⟨0, by omega, rfl, fun j _ h => absurd h (Nat.not_lt_zero j), rfl⟩
  case round =>
   obtain ⟨k, hk, rfl, hall, rfl⟩ := hrel
   by_cases hlt : k < nl.length
   ·have hlti : (k : Int) < (nl.length : Int) := by omega
    obtain ⟨b, off, rfl, cp⟩ := str_at (HNV.out w1 HXW.out) k hlt
    have hsz : (⟨nl[k].toArray⟩ : ByteArray).size = nl[k].length := by show nl[k].toArray.size = _; rw [List.size_toArray]
    have hany : Hid (8192 < nl[k].length -> nl.any (fun b => decide (8192 < b.length)) = true) := fun h => List.any_eq_true.2 ⟨_, List.getElem_mem hlt, decide_eq_true h⟩
    have hall2 : Hid (¬ 8192 < nl[k].length -> ∀ j (h : j < nl.length), j < k + 1 -> nl[j].length <= 8192) := fun h j hj hjk => by
     rcases Nat.lt_succ_iff_lt_or_eq.1 hjk with h1 | rfl
     ·exact hall.out j hj h1
     ·omega
    generalize nl[k] = P at *
    by_cases h8 : 8192 < P.length
    ·have h8i : (8192 : Int) < (P.length : Int) := by omega
     have HA : Hid (W5.renew ⟨d, gen, ls, false⟩ nl = (⟨d, gen, ls, false⟩, 2)) := HR2.out.trans (if_pos (hany.out h8))
     clear HR2 h8 hall hall2 hany HU1
     go_wp2_with (first
      | ((with_reducible show wpList _ _ _ (⟨none, Op.store _ (Operand.tmp 4) _, _, _, _, _⟩ :: _) _ _); refine wpl_store_all _ rfl 37 _ _ rfl (w.heap.size + 1) 37 [_, _, _, _, _, _, _, _, _] HRL.out.b1 rfl [.int .i64 r.n, .slice sa sn sc, .slice wa wn wc', .bool r.armed, .bool r.down, .int .i64 r.after, .int .u32 (gen : Int), (.slice la nrec lc), .bool false] rfl rfl size_l5 (by simp [Value.oneCell']) ?_; intro w9 hbn hmn hszn; have HFIN := qh (HRL.out.fin (L := ⟨d, gen, ls, false⟩) hmn HREL.out rfl); obtain ⟨d0, d1, d2, d3, d4, d5, d6, d7, d8, g0, g1, g2, g3, g4, g5, g6, g7, g8⟩ := nine_facts hbn; clear hbn hmn hszn)
      | fail)
     refine bodyPost_ret (v := .tuple #[.agg #[.int .i64 r.n, .slice sa sn sc, .slice wa wn wc', .bool r.armed, .bool r.down, .int .i64 r.after, .int .u32 (gen : Int), (.slice la nrec lc), .bool false], .int .i64 (2)]) (by simp [results, Tryz.results43, go_sem, d0, d1, d2, d3, d4, d5, d6, d7, d8]) rfl ?_
     rw [HA.out]
     exact ⟨r, _, _, _, rfl, HFIN.out.1, by omega, HFIN.out.2⟩
    ·have h8i : decide ((8192 : Int) < (P.length : Int)) = false := decide_eq_false (by omega)
     have HALL := qh (hall2.out h8)
     clear hall hall2 hany h8
     go_wp2
     go_roundw
     case rel => exact ⟨k + 1, by omega, by go_num, HALL.out, trivial⟩
     case measure => (simp [intOf]; try omega)
   ·obtain rfl : k = nl.length := by omega
    have HAL : Hid (∀ b ∈ nl, b.length <= 8192) := by
     intro b hb
     obtain ⟨j, hj, rfl⟩ := List.mem_iff_getElem.1 hb
     exact hall.out j hj hj
    have HAF : Hid (¬ nl.any (fun b => decide (8192 < b.length)) = true) := by
     intro h
     obtain ⟨b, hb, h9⟩ := List.any_eq_true.1 h
     have := HAL.out b hb
     have := of_decide_eq_true h9
     omega
    have HR3 := qh (HR2.out.trans (if_neg HAF.out))
    clear HR2 HAF hall hlt hk
    have hxn : ∀ n, Ext w1 (w1.drewN n) := fun n => below_drewN (Ext.refl w1) n
    have har : ∀ n, Calls Tryz.prog 37 #[.int .i64 r.n] (w1.drewN n) fun e w' => e = .returned (.int .i64 (W5.areaI d.n)) /\ w' = w1.drewN n := fun n => by rw [<- hrn]; exact (refArea_any d.n (w1.drewN n) (by omega) (by omega)).mono (fun _ _ hh => ⟨hh.1, hh.2.symm⟩)
    rw [hae] at har
    have hus : ∀ n, Calls Tryz.prog 38 #[.slice na nl.length nc, .int .i64 (W5.area d : Int)] (w1.drewN n) fun e w' => e = .returned (.int .i64 (W5.lim nl (W5.area d) : Int)) /\ w' = w1.drewN n := fun n => (HU1.out _ (HXW.out.trans (hxn n))).mono (fun _ _ hh => ⟨hh.1, hh.2.2.symm⟩)
    have hlm1 : Hid (W5.area d < W5.used nl -> W5.area d < W5.lim nl (W5.area d)) /\ Hid (W5.used nl <= W5.area d -> W5.lim nl (W5.area d) = W5.used nl) := by
     have h1 := UsedE_lim nl (W5.area d)
     exact ⟨h1.2, h1.1⟩
    obtain ⟨hlm1, hlm2⟩ := hlm1
    have hul := W5.len_le_used nl
    clear HU1
    generalize hUU : W5.used nl = U at *
    generalize hAA : W5.area d = A at *
    generalize W5.lim nl A = LM at *
    clear hae
    have hai : (A : Int) <= 2047 := by omega
    by_cases h6 : A < U
    ·have h6d : decide (A < LM) = true := decide_eq_true (hlm1.out h6)
     have HA : Hid (W5.renew ⟨d, gen, ls, false⟩ nl = (⟨d, gen, ls, false⟩, 6)) := HR3.out.trans (if_pos h6)
     clear HR3 hlm1 hlm2 h6
     go_wp2_with fail
     go_quiet (first
      | (go_at_call 38; exact Calls.quiet_of_same (hus _))
      | (go_at_call 37; exact Calls.quiet_of_same (har _)))
     have HBQ := qh (HRL.out.after (hxn nq))
     clear har hus hxn c0 c1 c2 c3 c4 c5 c6 c7 c8
     generalize w1.drewN nq = w5 at *
     obtain ⟨c0, c1, c2, c3, c4, c5, c6, c7, c8, f0, f1, f2, f3, f4, f5, f6, f7, f8⟩ := nine_facts HBQ.out.b0
     go_wp2_with (first
      | ((with_reducible show wpList _ _ _ (⟨none, Op.store _ (Operand.tmp 4) _, _, _, _, _⟩ :: _) _ _); refine wpl_store_all _ rfl 37 _ _ rfl (w.heap.size + 1) 37 [_, _, _, _, _, _, _, _, _] HBQ.out.b1 rfl [.int .i64 r.n, .slice sa sn sc, .slice wa wn wc', .bool r.armed, .bool r.down, .int .i64 r.after, .int .u32 (gen : Int), (.slice la nrec lc), .bool false] rfl rfl size_l5 (by simp [Value.oneCell']) ?_; intro w9 hbn hmn hszn; have HFIN := qh (HBQ.out.fin (L := ⟨d, gen, ls, false⟩) hmn HREL.out rfl); obtain ⟨d0, d1, d2, d3, d4, d5, d6, d7, d8, g0, g1, g2, g3, g4, g5, g6, g7, g8⟩ := nine_facts hbn; clear hbn hmn hszn)
      | fail)
     refine bodyPost_ret (v := .tuple #[.agg #[.int .i64 r.n, .slice sa sn sc, .slice wa wn wc', .bool r.armed, .bool r.down, .int .i64 r.after, .int .u32 (gen : Int), (.slice la nrec lc), .bool false], .int .i64 (6)]) (by simp [results, Tryz.results43, go_sem, d0, d1, d2, d3, d4, d5, d6, d7, d8]) rfl ?_
     rw [HA.out]
     exact ⟨r, _, _, _, rfl, HFIN.out.1, by omega, HFIN.out.2⟩
    ·have hlu := hlm2.out (by omega)
     subst hlu
     have h6d : decide (A < LM) = false := decide_eq_false h6
     have HR4 := qh (HR3.out.trans (if_neg h6))
     clear HR3 hlm1 hlm2
     go_wp2_with fail
     go_quiet (first
      | (go_at_call 38; exact Calls.quiet_of_same (hus _))
      | (go_at_call 37; exact Calls.quiet_of_same (har _)))
     have HBQ := qh (HRL.out.after (hxn nq))
     clear har hus hxn h6d c0 c1 c2 c3 c4 c5 c6 c7 c8
     generalize w1.drewN nq = w5 at *
     obtain ⟨c0, c1, c2, c3, c4, c5, c6, c7, c8, f0, f1, f2, f3, f4, f5, f6, f7, f8⟩ := nine_facts HBQ.out.b0
     by_cases h11 : gen = 4294967295
     ·have HA : Hid (W5.renew ⟨d, gen, ls, false⟩ nl = (⟨d, gen, ls, false⟩, 11)) := HR4.out.trans (if_pos h11)
      have hge : ((gen : Int) == 4294967295) = true := by rw [beq_iff_eq]; omega
      clear HR4 h6 h11
      go_wp2_with (first
       | ((with_reducible show wpList _ _ _ (⟨none, Op.store _ (Operand.tmp 4) _, _, _, _, _⟩ :: _) _ _); refine wpl_store_all _ rfl 37 _ _ rfl (w.heap.size + 1) 37 [_, _, _, _, _, _, _, _, _] HBQ.out.b1 rfl [.int .i64 r.n, .slice sa sn sc, .slice wa wn wc', .bool r.armed, .bool r.down, .int .i64 r.after, .int .u32 (gen : Int), (.slice la nrec lc), .bool false] rfl rfl size_l5 (by simp [Value.oneCell']) ?_; intro w9 hbn hmn hszn; have HFIN := qh (HBQ.out.fin (L := ⟨d, gen, ls, false⟩) hmn HREL.out rfl); obtain ⟨d0, d1, d2, d3, d4, d5, d6, d7, d8, g0, g1, g2, g3, g4, g5, g6, g7, g8⟩ := nine_facts hbn; clear hbn hmn hszn)
       | fail)
      refine bodyPost_ret (v := .tuple #[.agg #[.int .i64 r.n, .slice sa sn sc, .slice wa wn wc', .bool r.armed, .bool r.down, .int .i64 r.after, .int .u32 (gen : Int), (.slice la nrec lc), .bool false], .int .i64 (11)]) (by simp [results, Tryz.results43, go_sem, d0, d1, d2, d3, d4, d5, d6, d7, d8]) rfl ?_
      rw [HA.out]
      exact ⟨r, _, _, _, rfl, HFIN.out.1, by omega, HFIN.out.2⟩
     ·have hge : ((gen : Int) == 4294967295) = false := by rw [beq_eq_false_iff_ne]; omega
      have HR5 := qh (HR4.out.trans (if_neg h11))
      have hg1 : gen + 1 < 4294967296 := by omega
      have hg1i : (gen : Int) + 1 < 4294967296 := by omega
      have HGC := qh (show ((gen + 1 : Nat) : Int) = (gen : Int) + 1 from rfl)
      have hC := refBegin r (New X w w5) (.slice sa sn sc) (.slice wa wn wc') d HREL.out hn1 hn2 (gen + 1) (.slice na nl.length nc) nl w5 HBQ.out.at_ (by omega) hg1 (HNV.out _ HBQ.out.ext) (by omega) HAL.out
      unfold rv at hC
      rw [hUU, hB, show ((gen + 1 : Nat) : Int) = (gen : Int) + 1 from rfl] at hC
      have HC := qh hC
      have hLA : LM <= 2047 := by omega
      clear HR4 h11 hC h6 hgi
      generalize hBD : W5.begin_ d (gen + 1) nl = BD at *
      obtain ⟨DL, e1⟩ := BD
      clear hBD
      unfold W5.renewI at HR5
      simp only at HC HR5
      go_wp2_with fail
      refine HC.out.mono ?_
      clear HC
      rintro e w6 ⟨r2, hr2, hl2, sv', wv', rfl, hra, hx6⟩
      unfold rv
      obtain ⟨xa, xn, xc, hsv⟩ := hra.safe.any
      obtain ⟨ya, yn, yc, hwv⟩ := hra.wait.any
      subst hsv
      subst hwv
      have HRA := qh (hra.more (new_new HBQ.out.ext hx6))
      have HX6 := qh hx6
      have HB6 := qh (HBQ.out.after hx6)
      have HRR := qh hr2
      have hl3 : R4.len r2 <= B + 2048 := by omega
      clear hra hx6 hr2 hl2
      clear c0 c1 c2 c3 c4 c5 c6 c7 c8 f0 f1 f2 f3 f4 f5 f6 f7 f8
      obtain ⟨c0, c1, c2, c3, c4, c5, c6, c7, c8, f0, f1, f2, f3, f4, f5, f6, f7, f8⟩ := nine_facts HB6.out.b0
      by_cases hz : e1 = 0
      ·subst hz
       have HA : Hid (W5.renew ⟨d, gen, ls, false⟩ nl = (⟨DL, gen + 1, nl, false⟩, 0)) := HR5.out.trans (if_pos rfl)
       clear HR5
       go_wp2_with (first
        | ((with_reducible show wpList _ _ _ (⟨none, Op.store _ (Operand.tmp 50) _, _, _, _, _⟩ :: _) _ _); refine wpl_store_part _ rfl _ (.tmp 50) (.tmp 48) rfl w.heap.size 0 37 [.int .i64 r.n, .slice sa sn sc, .slice wa wn wc', .bool r.armed, .bool r.down, .int .i64 r.after, .int .u32 (gen : Int), (.slice la nrec lc), .bool false] HB6.out.b0 rfl (.agg #[.int .i64 r2.n, .slice xa xn xc, .slice ya yn yc, .bool r2.armed, .bool r2.down, .int .i64 r2.after]) rfl [.int .i64 r2.n, .slice xa xn xc, .slice ya yn yc, .bool r2.armed, .bool r2.down, .int .i64 r2.after] rfl [.int .i64 r2.n, .slice xa xn xc, .slice ya yn yc, .bool r2.armed, .bool r2.down, .int .i64 r2.after, .int .u32 (gen : Int), (.slice la nrec lc), .bool false] rfl (by simp) size_d4 (by simp [Value.oneCell']) ?_; intro w7 hbn hmn hszn; have HB7 := qh (HBQ.out.put (gen' := gen) (ls' := ls) (cl' := false) HX6.out HRA.out HB6.out.row HB6.out.rowX hmn hbn); clear c0 c1 c2 c3 c4 c5 c6 c7 c8 f0 f1 f2 f3 f4 f5 f6 f7 f8; obtain ⟨c0, c1, c2, c3, c4, c5, c6, c7, c8, f0, f1, f2, f3, f4, f5, f6, f7, f8⟩ := nine_facts HB7.out.b0; clear hbn hmn hszn)
        | ((with_reducible show wpList _ _ _ (⟨none, Op.store _ (Operand.tmp 59) _, _, _, _, _⟩ :: _) _ _); refine wpl_store_part _ rfl _ (.tmp 59) (.tmp 58) rfl w.heap.size 6 37 [.int .i64 r2.n, .slice xa xn xc, .slice ya yn yc, .bool r2.armed, .bool r2.down, .int .i64 r2.after, .int .u32 (gen : Int), (.slice la nrec lc), .bool false] HB7.out.b0 rfl (.int .u32 ((gen : Int) + 1)) rfl [.int .u32 ((gen : Int) + 1)] rfl [.int .i64 r2.n, .slice xa xn xc, .slice ya yn yc, .bool r2.armed, .bool r2.down, .int .i64 r2.after, .int .u32 ((gen : Int) + 1), (.slice la nrec lc), .bool false] rfl (by simp) size_u32 (by simp [Value.oneCell']) ?_; intro w8 hbn hmn hszn; have HB8 := qh (HB7.out.put (gen' := gen + 1) (ls' := ls) (cl' := false) (Ext.refl _) HB7.out.at_ HB7.out.row HB7.out.rowX hmn hbn); clear c0 c1 c2 c3 c4 c5 c6 c7 c8 f0 f1 f2 f3 f4 f5 f6 f7 f8; obtain ⟨c0, c1, c2, c3, c4, c5, c6, c7, c8, f0, f1, f2, f3, f4, f5, f6, f7, f8⟩ := nine_facts hbn; clear hbn hmn hszn)
        | fail)
       refine (refCopied (.slice na nl.length nc) nl w8 (HNV.out _ HB8.out.ext) (by omega)).mono ?_
       rintro e w12 ⟨v9, rfl, hown9, hx12⟩
       have HROW := qh (ownsRow_base5 hown9 (Nat.zero_le _))
       have HRX : Hid (∀ k, v9.ownBlock = some k -> New X w w12 k) := fun k hk => .inr ⟨Nat.le_trans HB8.out.ext.size (hown9.lt k hk).1, (hown9.lt k hk).2⟩
       obtain ⟨a9, k9, hv9⟩ := str_shape (Reads.of_own hown9 (str_one _))
       subst hv9
       have HX12 := qh hx12
       have HB12 := qh (HB8.out.after hx12)
       have HAT := qh HB12.out.at_
       clear hown9 hx12 hg1i
       dsimp only
       have hb12 : w12.heap[w.heap.size]? = some (.cells #[.int .i64 r2.n, .slice xa xn xc, .slice ya yn yc, .bool r2.armed, .bool r2.down, .int .i64 r2.after, .int .u32 ((gen : Int) + 1), (.slice la nrec lc), .bool false] 37 (0, 0)) := HB12.out.b0
       clear c0 c1 c2 c3 c4 c5 c6 c7 c8 f0 f1 f2 f3 f4 f5 f6 f7 f8
       obtain ⟨c0, c1, c2, c3, c4, c5, c6, c7, c8, f0, f1, f2, f3, f4, f5, f6, f7, f8⟩ := nine_facts hb12
       go_wp2_with (first
        | ((with_reducible show wpList _ _ _ (⟨none, Op.store _ (Operand.tmp 62) _, _, _, _, _⟩ :: _) _ _); refine wpl_store_part _ rfl _ (.tmp 62) (.tmp 61) rfl w.heap.size 7 37 [.int .i64 r2.n, .slice xa xn xc, .slice ya yn yc, .bool r2.armed, .bool r2.down, .int .i64 r2.after, .int .u32 ((gen : Int) + 1), (.slice la nrec lc), .bool false] hb12 rfl (.slice a9 nl.length k9) rfl [.slice a9 nl.length k9] rfl [.int .i64 r2.n, .slice xa xn xc, .slice ya yn yc, .bool r2.armed, .bool r2.down, .int .i64 r2.after, .int .u32 ((gen : Int) + 1), (.slice a9 nl.length k9), .bool false] rfl (by simp) size_sl (by simp [Value.oneCell']) ?_; intro w15 hbn hmn hszn; have HB15 := qh (HB8.out.put (gen' := gen + 1) (ls' := nl) (cl' := false) HX12.out HAT.out HROW.out HRX.out hmn hbn); clear c0 c1 c2 c3 c4 c5 c6 c7 c8 f0 f1 f2 f3 f4 f5 f6 f7 f8; obtain ⟨c0, c1, c2, c3, c4, c5, c6, c7, c8, f0, f1, f2, f3, f4, f5, f6, f7, f8⟩ := nine_facts hbn; clear hbn hmn hszn)
        | ((with_reducible show wpList _ _ _ (⟨none, Op.store _ (Operand.tmp 4) _, _, _, _, _⟩ :: _) _ _); refine wpl_store_all _ rfl 37 _ _ rfl (w.heap.size + 1) 37 [_, _, _, _, _, _, _, _, _] HB15.out.b1 rfl [.int .i64 r2.n, .slice xa xn xc, .slice ya yn yc, .bool r2.armed, .bool r2.down, .int .i64 r2.after, .int .u32 ((gen : Int) + 1), (.slice a9 nl.length k9), .bool false] rfl rfl size_l5 (by simp [Value.oneCell']) ?_; intro w9 hbn hmn hszn; have HFIN := qh (HB15.out.fin (L := ⟨DL, gen + 1, nl, false⟩) hmn HRR.out rfl); obtain ⟨d0, d1, d2, d3, d4, d5, d6, d7, d8, g0, g1, g2, g3, g4, g5, g6, g7, g8⟩ := nine_facts hbn; clear hbn hmn hszn)
        | fail)
       refine bodyPost_ret (v := .tuple #[.agg #[.int .i64 r2.n, .slice xa xn xc, .slice ya yn yc, .bool r2.armed, .bool r2.down, .int .i64 r2.after, .int .u32 ((gen : Int) + 1), (.slice a9 nl.length k9), .bool false], .int .i64 (0)]) (by simp [results, Tryz.results43, go_sem, d0, d1, d2, d3, d4, d5, d6, d7, d8]) rfl ?_
       rw [HA.out]
       exact ⟨r2, _, _, _, rfl, HFIN.out.1, hl3, HFIN.out.2⟩
      ·have hzn : (e1 != 0) = true := by rw [bne_iff_ne]; exact hz
       have HA : Hid (W5.renew ⟨d, gen, ls, false⟩ nl = (⟨DL, gen, ls, true⟩, e1)) := HR5.out.trans (if_neg hz)
       clear HR5 hz
       go_wp2_with (first
        | ((with_reducible show wpList _ _ _ (⟨none, Op.store _ (Operand.tmp 50) _, _, _, _, _⟩ :: _) _ _); refine wpl_store_part _ rfl _ (.tmp 50) (.tmp 48) rfl w.heap.size 0 37 [.int .i64 r.n, .slice sa sn sc, .slice wa wn wc', .bool r.armed, .bool r.down, .int .i64 r.after, .int .u32 (gen : Int), (.slice la nrec lc), .bool false] HB6.out.b0 rfl (.agg #[.int .i64 r2.n, .slice xa xn xc, .slice ya yn yc, .bool r2.armed, .bool r2.down, .int .i64 r2.after]) rfl [.int .i64 r2.n, .slice xa xn xc, .slice ya yn yc, .bool r2.armed, .bool r2.down, .int .i64 r2.after] rfl [.int .i64 r2.n, .slice xa xn xc, .slice ya yn yc, .bool r2.armed, .bool r2.down, .int .i64 r2.after, .int .u32 (gen : Int), (.slice la nrec lc), .bool false] rfl (by simp) size_d4 (by simp [Value.oneCell']) ?_; intro w7 hbn hmn hszn; have HB7 := qh (HBQ.out.put (gen' := gen) (ls' := ls) (cl' := false) HX6.out HRA.out HB6.out.row HB6.out.rowX hmn hbn); clear c0 c1 c2 c3 c4 c5 c6 c7 c8 f0 f1 f2 f3 f4 f5 f6 f7 f8; obtain ⟨c0, c1, c2, c3, c4, c5, c6, c7, c8, f0, f1, f2, f3, f4, f5, f6, f7, f8⟩ := nine_facts HB7.out.b0; clear hbn hmn hszn)
        | ((with_reducible show wpList _ _ _ (⟨none, Op.store _ (Operand.tmp 53) _, _, _, _, _⟩ :: _) _ _); refine wpl_store_part _ rfl _ (.tmp 53) (.const (.bool true)) rfl w.heap.size 8 37 [.int .i64 r2.n, .slice xa xn xc, .slice ya yn yc, .bool r2.armed, .bool r2.down, .int .i64 r2.after, .int .u32 (gen : Int), (.slice la nrec lc), .bool false] HB7.out.b0 rfl (.bool true) rfl [.bool true] rfl [.int .i64 r2.n, .slice xa xn xc, .slice ya yn yc, .bool r2.armed, .bool r2.down, .int .i64 r2.after, .int .u32 (gen : Int), (.slice la nrec lc), .bool true] rfl (by simp) size_bo (by simp [Value.oneCell']) ?_; intro w8 hbn hmn hszn; have HB8 := qh (HB7.out.put (gen' := gen) (ls' := ls) (cl' := true) (Ext.refl _) HB7.out.at_ HB7.out.row HB7.out.rowX hmn hbn); clear c0 c1 c2 c3 c4 c5 c6 c7 c8 f0 f1 f2 f3 f4 f5 f6 f7 f8; obtain ⟨c0, c1, c2, c3, c4, c5, c6, c7, c8, f0, f1, f2, f3, f4, f5, f6, f7, f8⟩ := nine_facts HB8.out.b0; clear hbn hmn hszn)
        | ((with_reducible show wpList _ _ _ (⟨none, Op.store _ (Operand.tmp 4) _, _, _, _, _⟩ :: _) _ _); refine wpl_store_all _ rfl 37 _ _ rfl (w.heap.size + 1) 37 [_, _, _, _, _, _, _, _, _] HB8.out.b1 rfl [.int .i64 r2.n, .slice xa xn xc, .slice ya yn yc, .bool r2.armed, .bool r2.down, .int .i64 r2.after, .int .u32 (gen : Int), (.slice la nrec lc), .bool true] rfl rfl size_l5 (by simp [Value.oneCell']) ?_; intro w9 hbn hmn hszn; have HFIN := qh (HB8.out.fin (L := ⟨DL, gen, ls, true⟩) hmn HRR.out rfl); obtain ⟨d0, d1, d2, d3, d4, d5, d6, d7, d8, g0, g1, g2, g3, g4, g5, g6, g7, g8⟩ := nine_facts hbn; clear hbn hmn hszn)
        | fail)
       refine bodyPost_ret (v := .tuple #[.agg #[.int .i64 r2.n, .slice xa xn xc, .slice ya yn yc, .bool r2.armed, .bool r2.down, .int .i64 r2.after, .int .u32 (gen : Int), (.slice la nrec lc), .bool true], .int .i64 (e1)]) (by simp [results, Tryz.results43, go_sem, d0, d1, d2, d3, d4, d5, d6, d7, d8]) rfl ?_
       rw [HA.out]
       exact ⟨r2, _, _, _, rfl, HFIN.out.1, hl3, HFIN.out.2⟩
end Go.Proofs.YtnjfioikpajhlaaGreat
namespace Go.Proofs.YtnjfioikpajhlaaGreat
open Go.RowKit
theorem readF_bounds {d : D.Dsk} (hok : D.Ok d) (gen : Nat) : ∀ f n a, (W5.readF d gen f n a).length <= f /\ ∀ b ∈ W5.readF d gen f n a, b.length <= 8192
 | 0, _, _ => ⟨Nat.le_refl _, fun b hb => absurd hb List.not_mem_nil⟩
 | f + 1, n, a => by
  cases h : W5.nextR d gen n a with
  | none => rw [W5.readF_none h]; exact ⟨Nat.zero_le _, fun b hb => absurd hb List.not_mem_nil⟩
  | some x =>
   rw [W5.readF_some h]
   have h2 := readF_bounds hok gen f (n + 1) (a + W5.need x.length)
   refine ⟨by rw [List.length_cons]; omega, fun b hb => ?_⟩
   rcases List.mem_cons.1 hb with rfl | hb
   ·exact (W5.nextR_some hok h).2
   ·exact h2.2 b hb
theorem list_bounds {d : D.Dsk} (hok : D.Ok d) : (W5.list d).length <= 2048 /\ ∀ b ∈ W5.list d, b.length <= 8192 := by
 have hal := W5.area_le d hok.n2
 unfold W5.list
 split
 ·have h := readF_bounds hok (W5.current d).1 (W5.area d + 1) 0 0
  exact ⟨Nat.le_trans h.1 (by omega), h.2⟩
 ·exact ⟨Nat.zero_le _, fun b hb => absurd hb List.not_mem_nil⟩
theorem RefL.ext {w w' : World} {X : Nat -> Prop} {L : W5.Lg} {r : Ref4} {sv wv lv : Value} (h : RefL w X L r sv wv lv) (hx : Ext w w') : RefL w' X L r sv wv lv := ⟨h.at_.ext hx, h.rel, hx.keptOwn h.row, h.rowX⟩
theorem RefL.more {w : World} {X Y : Nat -> Prop} {L : W5.Lg} {r : Ref4} {sv wv lv : Value} (h : RefL w X L r sv wv lv) (hXY : ∀ k, X k -> Y k) : RefL w Y L r sv wv lv := ⟨h.at_.more hXY, h.rel, h.row, fun k hk => hXY k (h.rowX k hk)⟩
theorem RefL.store5 {w w' : World} {X : Nat -> Prop} {L : W5.Lg} {r : Ref4} {sv wv lv : Value} (h : RefL w X L r sv wv lv) {b : Nat} {A : Array Value} (hb : w.heap[b]? = some (.cells A 37 (0, 0))) (hm : Mod (fun k => k = b) w w') : RefL w' X L r sv wv lv :=
 ⟨h.at_.store5 hb (by decide) hm, h.rel, ownsRow_mod h.row hm (own_ne h.row hb (by decide)), h.rowX⟩
theorem RefL.keeps {w w' : World} {X : Nat -> Prop} {L : W5.Lg} {r : Ref4} {sv wv lv : Value} (h : RefL w X L r sv wv lv) (hk : Keeps X w w') : RefL w' X L r sv wv lv := ⟨h.at_.keeps hk, h.rel, hk.own h.row h.rowX, h.rowX⟩
structure RO (w v : World) (X : Nat -> Prop) (r : Ref4) (sv wv : Value) : Prop where
 at_ : RefAt v (New X w v) r sv wv
 b0 : v.heap[w.heap.size]? = some (.cells #[.int .i64 r.n, sv, wv, .bool r.armed, .bool r.down, .int .i64 r.after] 33 (0, 0))
 b1 : v.heap[w.heap.size + 1]? = some (.cells #[.int .i64 0, .slice none 0 0, .slice none 0 0, .bool false, .bool false, .int .i64 0, .int .u32 0, .slice none 0 0, .bool false] 37 (0, 0))
 ext : Ext w v
theorem RO.after {w v v' : World} {X : Nat -> Prop} {r : Ref4} {sv wv : Value} (h : RO w v X r sv wv) (hx : Ext v v') : RO w v' X r sv wv :=
 ⟨(h.at_.ext hx).more (New.up hx.size), blk_mod (F := fun _ => False) h.b0 (Mod.of_ext hx) (fun h => h), blk_mod (F := fun _ => False) h.b1 (Mod.of_ext hx) (fun h => h), h.ext.trans hx⟩
theorem RO.fin {w v v' : World} {X : Nat -> Prop} {r : Ref4} {sv wv : Value} (h : RO w v X r sv wv) (hm : Mod (fun k => k = w.heap.size + 1) v v') : RefAt v' (New X w v') r sv wv /\ Ext w v' :=
 ⟨(h.at_.store5 h.b1 (by decide) hm).more (New.up hm.size), hm.ext h.ext (fun k e => by omega)⟩
theorem RO.start {w : World} {X : Nat -> Prop} {r : Ref4} {sv wv : Value} (h : RefAt w X r sv wv) :
 RO w ((w.alloc (.cells #[.int .i64 r.n, sv, wv, .bool r.armed, .bool r.down, .int .i64 r.after] 33)).alloc (.cells #[.int .i64 0, .slice none 0 0, .slice none 0 0, .bool false, .bool false, .int .i64 0, .int .u32 0, .slice none 0 0, .bool false] 37)) X r sv wv := by
 have hx : Ext w ((w.alloc (.cells #[.int .i64 r.n, sv, wv, .bool r.armed, .bool r.down, .int .i64 r.after] 33)).alloc (.cells #[.int .i64 0, .slice none 0 0, .slice none 0 0, .bool false, .bool false, .int .i64 0, .int .u32 0, .slice none 0 0, .bool false] 37)) := (Ext.of_alloc w _).alloc _
 obtain ⟨h1, h2⟩ := two_boxes' w #[.int .i64 r.n, sv, wv, .bool r.armed, .bool r.down, .int .i64 r.after] #[.int .i64 0, .slice none 0 0, .slice none 0 0, .bool false, .bool false, .int .i64 0, .int .u32 0, .slice none 0 0, .bool false] 33 37
 exact ⟨h.all hx, h1, h2, hx⟩
def OpenOut (w w' : World) (X : Nat -> Prop) (x : W5.Lg × Int) (B : Nat) (e : Ending) : Prop :=
 ∃ r' sv' wv' lv' g cl, e = .returned (.tuple #[lgv r' sv' wv' g lv' cl, .int .i64 x.2]) /\ (∃ a n c, sv' = .slice a n c) /\ (∃ a n c, wv' = .slice a n c) /\ (∃ a n c, lv' = .slice a n c) /\ Ext w w' /\ (x.2 = 0 -> g = x.1.gen /\ cl = x.1.cl /\ RefL w' (New X w w') x.1 r' sv' wv' lv' /\ R4.len r' <= B)
theorem refOpen (r : Ref4) (X : Nat -> Prop) (sv wv : Value) (d : D.Dsk) (hrel : Rel d r) (hok : D.Ok d) (w : World) (h : RefAt w X r sv wv) (hlen : R4.len r <= 700000) :
 Calls Tryz.prog 30 #[rv r sv wv] w fun e w' => OpenOut w w' X (W5.open_ d) (R4.len r + 2048) e := by
 have HO := qh (show W5.open_ d = _ from W5.open_.eq_1 d)
 have hRO := RO.start h
 have hrn := hrel.n
 have hrd := hrel.down
 have hn1 := hok.n1
 have hn2 := hok.n2
 have HREL := qh hrel
 have HOK := qh hok
 have HLB := qh (list_bounds hok)
 have HCU := qh (fun (v : World) (hv : Ext w v) => refCurrent r sv wv d hrel hok v (h.safe.ext hv) (h.wait.ext hv))
 have HNX := qh (fun (gen : Nat) (hg : gen < 4294967296) (v : World) (hv : Ext w v) => refNext r sv wv d hrel hok gen v (h.safe.ext hv) (h.wait.ext hv) hg)
 have HRE := qh (fun (gen : Nat) (hg : gen < 4294967296) (v : World) (hv : Ext w v) => refRead r sv wv d hrel hok gen v (h.safe.ext hv) (h.wait.ext hv) hg)
 obtain ⟨sa, sn, sc, hsv⟩ := h.safe.any
 obtain ⟨wa, wn, wc', hwv⟩ := h.wait.any
 subst hsv
 subst hwv
 generalize hB : R4.len r = B at *
 have hBd := hB
 have HB := qh hBd
 clear hBd hB
 obtain ⟨rn, safe, wait, armed, down, after⟩ := r
 unfold rv at HCU HNX HRE ⊢
 simp only at HCU HNX HRE hrn hrd hRO ⊢
 clear h hrel hok
 go_enter Tryz.func30, Tryz.ntmps30
 go_upto_region 1 with (fail)
 generalize ((w.alloc (.cells #[.int .i64 rn, .slice sa sn sc, .slice wa wn wc', .bool armed, .bool down, .int .i64 after] 33)).alloc (.cells #[.int .i64 0, .slice none 0 0, .slice none 0 0, .bool false, .bool false, .int .i64 0, .int .u32 0, .slice none 0 0, .bool false] 37)) = w1 at *
 have HRO := qh hRO
 clear hRO
 obtain ⟨c0, c1, c2, c3, c4, c5, f0, f1, f2, f3, f4, f5⟩ := box_facts HRO.out.b0
 by_cases h1 : d.n < 4
 ·rw [if_pos h1] at HO
  have h1i : rn < 4 := by omega
  clear h1
  go_wp2_with (first
   | ((with_reducible show wpList _ _ _ (⟨none, Op.store _ (Operand.tmp 2) _, _, _, _, _⟩ :: _) _ _); refine wpl_store_all _ rfl 37 _ _ rfl (w.heap.size + 1) 37 [_, _, _, _, _, _, _, _, _] HRO.out.b1 rfl [.int .i64 rn, .slice sa sn sc, .slice wa wn wc', .bool armed, .bool down, .int .i64 after, .int .u32 0, .slice none 0 0, .bool false] rfl rfl size_l5 (by simp [Value.oneCell']) ?_; intro w9 hbn hmn hszn; have HFIN := qh (HRO.out.fin hmn); obtain ⟨d0, d1, d2, d3, d4, d5, d6, d7, d8, g0, g1, g2, g3, g4, g5, g6, g7, g8⟩ := nine_facts hbn; clear hbn hmn hszn)
   | fail)
  refine bodyPost_ret (v := .tuple #[.agg #[.int .i64 rn, .slice sa sn sc, .slice wa wn wc', .bool armed, .bool down, .int .i64 after, .int .u32 0, .slice none 0 0, .bool false], .int .i64 (1)]) (by simp [results, Tryz.results30, go_sem, d0, d1, d2, d3, d4, d5, d6, d7, d8]) rfl ?_
  rw [HO.out]
  unfold OpenOut lgv
  exact ⟨⟨rn, safe, wait, armed, down, after⟩, .slice sa sn sc, .slice wa wn wc', .slice none 0 0, 0, false, rfl, HFIN.out.1.safe.any, HFIN.out.1.wait.any, ⟨_, _, _, rfl⟩, HFIN.out.2, fun h => absurd (show (1 : Int) = 0 from h) (by decide)⟩
 ·rw [if_neg h1] at HO
  have h1i : decide (rn < 4) = false := decide_eq_false (by omega)
  have h4 : 4 <= d.n := by omega
  clear h1
  cases down with
  | true =>
   rw [if_pos hrd] at HO
   clear hrd
   go_wp2_with (first
    | ((with_reducible show wpList _ _ _ (⟨none, Op.store _ (Operand.tmp 2) _, _, _, _, _⟩ :: _) _ _); refine wpl_store_all _ rfl 37 _ _ rfl (w.heap.size + 1) 37 [_, _, _, _, _, _, _, _, _] HRO.out.b1 rfl [.int .i64 rn, .slice sa sn sc, .slice wa wn wc', .bool armed, .bool true, .int .i64 after, .int .u32 0, .slice none 0 0, .bool false] rfl rfl size_l5 (by simp [Value.oneCell']) ?_; intro w9 hbn hmn hszn; have HFIN := qh (HRO.out.fin hmn); obtain ⟨d0, d1, d2, d3, d4, d5, d6, d7, d8, g0, g1, g2, g3, g4, g5, g6, g7, g8⟩ := nine_facts hbn; clear hbn hmn hszn)
    | fail)
   refine bodyPost_ret (v := .tuple #[.agg #[.int .i64 rn, .slice sa sn sc, .slice wa wn wc', .bool armed, .bool true, .int .i64 after, .int .u32 0, .slice none 0 0, .bool false], .int .i64 (3)]) (by simp [results, Tryz.results30, go_sem, d0, d1, d2, d3, d4, d5, d6, d7, d8]) rfl ?_
   rw [HO.out]
   unfold OpenOut lgv
   exact ⟨⟨rn, safe, wait, armed, true, after⟩, .slice sa sn sc, .slice wa wn wc', .slice none 0 0, 0, false, rfl, HFIN.out.1.safe.any, HFIN.out.1.wait.any, ⟨_, _, _, rfl⟩, HFIN.out.2, fun h => absurd (show (3 : Int) = 0 from h) (by decide)⟩
  | false =>
   rw [if_neg (by rw [hrd]; decide)] at HO
   have hgl : (W5.current d).1 < 4294967296 := W5.curTo_lt d 2
   have HLI := qh (show W5.list d = if (W5.current d).2 = true then W5.read d (W5.current d).1 else [] from rfl)
   have HOP := qh (show W5.opened d = W5.renew ⟨d, W5.following d (W5.current d).1 - 1, [], false⟩ (W5.list d) from rfl)
   generalize W5.current d = C at *
   obtain ⟨gen, has⟩ := C
   simp only at hgl HLI HOP HO HCU
   have hf1 : 1 <= W5.following d gen := by unfold W5.following; omega
   have hf2 : W5.following d gen < 8589934592 := by
    have := W5.folTo_lt d gen hgl d.n.toNat
    unfold W5.following
    split <;> omega
   have HNX2 := qh (HNX.out gen hgl)
   have HRE2 := qh (HRE.out gen hgl)
   clear hrd HNX HRE f0 f1 f2 f3 f4 f5
   go_wp2_with fail
   refine (HCU.out w1 HRO.out.ext).mono ?_
   clear HCU
   rintro e w2 ⟨rfl, hx2⟩
   have HRO2 := qh (HRO.out.after hx2)
   clear hx2 HRO c0 c1 c2 c3 c4 c5
   obtain ⟨c0, c1, c2, c3, c4, c5, f0, f1, f2, f3, f4, f5⟩ := box_facts HRO2.out.b0
   clear f0 f1 f2 f3 f4 f5
   dsimp only
   go_wp2_with fail
   refine (HNX2.out w2 HRO2.out.ext).mono ?_
   clear HNX2
   rintro e w3 ⟨rfl, hx3⟩
   have HRO3 := qh (HRO2.out.after hx3)
   clear hx3 HRO2 c0 c1 c2 c3 c4 c5
   obtain ⟨c0, c1, c2, c3, c4, c5, f0, f1, f2, f3, f4, f5⟩ := box_facts HRO3.out.b0
   dsimp only
   generalize W5.following d gen = F at *
   by_cases h3 : 4294967295 < F
   ·have h3i : (4294967295 : Int) < (F : Int) := by omega
    rw [if_pos h3] at HO
    clear h3
    go_wp2_with (first
     | ((with_reducible show wpList _ _ _ (⟨none, Op.store _ (Operand.tmp 2) _, _, _, _, _⟩ :: _) _ _); refine wpl_store_all _ rfl 37 _ _ rfl (w.heap.size + 1) 37 [_, _, _, _, _, _, _, _, _] HRO3.out.b1 rfl [.int .i64 rn, .slice sa sn sc, .slice wa wn wc', .bool armed, .bool false, .int .i64 after, .int .u32 0, .slice none 0 0, .bool false] rfl rfl size_l5 (by simp [Value.oneCell']) ?_; intro w9 hbn hmn hszn; have HFIN := qh (HRO3.out.fin hmn); obtain ⟨d0, d1, d2, d3, d4, d5, d6, d7, d8, g0, g1, g2, g3, g4, g5, g6, g7, g8⟩ := nine_facts hbn; clear hbn hmn hszn)
     | fail)
    refine bodyPost_ret (v := .tuple #[.agg #[.int .i64 rn, .slice sa sn sc, .slice wa wn wc', .bool armed, .bool false, .int .i64 after, .int .u32 0, .slice none 0 0, .bool false], .int .i64 (11)]) (by simp [results, Tryz.results30, go_sem, d0, d1, d2, d3, d4, d5, d6, d7, d8]) rfl ?_
    rw [HO.out]
    unfold OpenOut lgv
    exact ⟨⟨rn, safe, wait, armed, false, after⟩, .slice sa sn sc, .slice wa wn wc', .slice none 0 0, 0, false, rfl, HFIN.out.1.safe.any, HFIN.out.1.wait.any, ⟨_, _, _, rfl⟩, HFIN.out.2, fun h => absurd (show (11 : Int) = 0 from h) (by decide)⟩
   ·have h3i : decide ((4294967295 : Int) < (F : Int)) = false := decide_eq_false (by omega)
    rw [if_neg h3, HOP.out] at HO
    have hF1 : (1 : Int) <= (F : Int) := by omega
    have hF2 : (F : Int) <= 4294967295 := by omega
    have hfc : (F : Int) - 1 = ((F - 1 : Nat) : Int) := by omega
    generalize hG : F - 1 = G at *
    have hGi : (G : Int) < 4294967295 := by omega
    have HG : Hid (G < 4294967296) := by unfold Hid; omega
    clear h3 hf1 hf2 HOP f0 f1 f2 f3 f4 f5
    have HL0 : Hid (∀ v, Ext w v -> RefAt v (New X w v) ⟨rn, safe, wait, armed, false, after⟩ (.slice sa sn sc) (.slice wa wn wc') -> RefL v (New X w v) ⟨d, G, [], false⟩ ⟨rn, safe, wait, armed, false, after⟩ (.slice sa sn sc) (.slice wa wn wc') (.slice none 0 0)) := fun v _ hv => ⟨hv, HREL.out, World.ownsRow_nil _ _ _ _, fun k hk => by simp [Value.ownBlock] at hk⟩
    have HRW : Hid (∀ (v : World) (nv : Value), RO w v X ⟨rn, safe, wait, armed, false, after⟩ (.slice sa sn sc) (.slice wa wn wc') -> Reads v nv ((W5.list d).map strV) -> Calls Tryz.prog 43 #[lgv ⟨rn, safe, wait, armed, false, after⟩ (.slice sa sn sc) (.slice wa wn wc') G (.slice none 0 0) false, nv] v fun e w' => LogOut v w' (New X w v) (W5.renew ⟨d, G, [], false⟩ (W5.list d)).1 (B + 2048) (W5.renew ⟨d, G, [], false⟩ (W5.list d)).2 e) := fun v nv hv hr => by
     have := refRenew ⟨d, G, [], false⟩ ⟨rn, safe, wait, armed, false, after⟩ (New X w v) (.slice sa sn sc) (.slice wa wn wc') (.slice none 0 0) nv (W5.list d) v (HL0.out v hv.ext hv.at_) hn1 hn2 HG.out (by rw [HB.out]; exact hlen) hr (Nat.le_trans HLB.out.1 (by decide)) (fun b hb => Nat.le_trans (HLB.out.2 b hb) (by decide))
     rw [HB.out] at this
     exact this
    generalize W5.renew ⟨d, G, [], false⟩ (W5.list d) = RR at *
    unfold lgv at HRW
    simp only at HRW
    cases has with
    | false =>
     have HLE : Hid (W5.list d = []) := HLI.out.trans (if_neg (by decide))
     have HC := qh (HRW.out w3 (.slice none 0 0) HRO3.out (by rw [HLE.out]; exact Reads.nil _))
     go_wp2_with fail
     refine HC.out.mono ?_
     clear HC
     rintro e w6 ⟨r2, sv', wv', lv', rfl, hl, hlb, hx6⟩
     unfold lgv
     obtain ⟨L2, e2⟩ := RR
     simp only at hl HO
     obtain ⟨xa, xn, xc, hsv⟩ := hl.at_.safe.any
     obtain ⟨ya, yn, yc, hwv⟩ := hl.at_.wait.any
     obtain ⟨za, zc, hlv⟩ := str_shape (Reads.of_own hl.row (str_one _))
     subst hsv
     subst hwv
     subst hlv
     generalize hzn : L2.recs.length = zn at *
     have HZN := qh hzn
     clear hzn
     have HRO6 := qh (HRO3.out.after hx6)
     have HL6 := qh (hl.more (new_new HRO3.out.ext hx6))
     have HLB6 := qh hlb
     clear hl hx6 hlb HRW HRO3 c0 c1 c2 c3 c4 c5
     clear hF1 hF2 hfc hGi hgl h3i
     dsimp only
     have HX7 := qh (Ext.of_alloc w6 (.cells #[.int .i64 0, .slice none 0 0, .slice none 0 0, .bool false, .bool false, .int .i64 0, .int .u32 0, .slice none 0 0, .bool false] 37))
     have HZ8 : Hid ((w6.alloc (.cells #[.int .i64 0, .slice none 0 0, .slice none 0 0, .bool false, .bool false, .int .i64 0, .int .u32 0, .slice none 0 0, .bool false] 37)).heap[w6.heap.size]? = some (.cells #[.int .i64 0, .slice none 0 0, .slice none 0 0, .bool false, .bool false, .int .i64 0, .int .u32 0, .slice none 0 0, .bool false] 37 (0, 0))) := heap_alloc_new w6 _
     go_upto_region 13 with (first
      | ((with_reducible show wpList _ _ _ (⟨none, Op.store _ (Operand.tmp 8) _, _, _, _, _⟩ :: _) _ _); refine wpl_store_all _ rfl 37 _ _ rfl w6.heap.size 37 [_, _, _, _, _, _, _, _, _] HZ8.out rfl [.int .i64 r2.n, .slice xa xn xc, .slice ya yn yc, .bool r2.armed, .bool r2.down, .int .i64 r2.after, .int .u32 (L2.gen : Int), (.slice za zn zc), .bool L2.cl] rfl rfl size_l5 (by simp [Value.oneCell']) ?_; intro w8 hbn hmn hszn; have HM8 := qh hmn; have HN8 := qh hbn; obtain ⟨c0, c1, c2, c3, c4, c5, c6, c7, c8, f0, f1, f2, f3, f4, f5, f6, f7, f8⟩ := nine_facts hbn; clear hbn hmn hszn)
      | fail)
     have hs6 : w.heap.size + 1 < w6.heap.size := blk_lt HRO6.out.b1
     have HXT := qh (HM8.out.ext ((HRO6.out.ext).trans HX7.out) (fun k e => by omega))
     have HL8 := qh (((HL6.out.ext HX7.out).store5 HZ8.out HM8.out).more (New.up (Nat.le_trans HX7.out.size HM8.out.size)))
     have HB8 := qh (blk_mod (blk_mod (F := fun _ => False) HRO6.out.b1 (Mod.of_ext HX7.out) (fun h => h)) HM8.out (by omega))
     clear HX7 HZ8 HM8 HL6 HRO6
     by_cases hz : e2 = 0
     ·subst hz
      go_wp2_with (first
       | ((with_reducible show wpList _ _ _ (⟨none, Op.store _ (Operand.tmp 2) _, _, _, _, _⟩ :: _) _ _); refine wpl_store_all _ rfl 37 _ _ rfl (w.heap.size + 1) 37 [_, _, _, _, _, _, _, _, _] HB8.out rfl [.int .i64 r2.n, .slice xa xn xc, .slice ya yn yc, .bool r2.armed, .bool r2.down, .int .i64 r2.after, .int .u32 (L2.gen : Int), (.slice za zn zc), .bool L2.cl] rfl rfl size_l5 (by simp [Value.oneCell']) ?_; intro w9 hbn hmn hszn; have HFX := qh (hmn.ext HXT.out (fun k e => by omega)); have HFL := qh ((HL8.out.store5 HB8.out hmn).more (New.up hmn.size)); obtain ⟨d0, d1, d2, d3, d4, d5, d6, d7, d8, g0, g1, g2, g3, g4, g5, g6, g7, g8⟩ := nine_facts hbn; clear hbn hmn hszn)
       | fail)
      refine bodyPost_ret (v := .tuple #[.agg #[.int .i64 r2.n, .slice xa xn xc, .slice ya yn yc, .bool r2.armed, .bool r2.down, .int .i64 r2.after, .int .u32 (L2.gen : Int), (.slice za zn zc), .bool L2.cl], .int .i64 (0)]) (by simp [results, Tryz.results30, go_sem, d0, d1, d2, d3, d4, d5, d6, d7, d8]) rfl ?_
      rw [HO.out]
      unfold OpenOut lgv
      exact ⟨r2, .slice xa xn xc, .slice ya yn yc, .slice za zn zc, L2.gen, L2.cl, rfl, ⟨_, _, _, rfl⟩, ⟨_, _, _, rfl⟩, ⟨_, _, _, rfl⟩, HFX.out, fun _ => ⟨rfl, rfl, HFL.out, HLB6.out⟩⟩
     ·have hzn2 : (e2 != 0) = true := by rw [bne_iff_ne]; exact hz
      have HZ := qh hz
      clear hz
      go_wp2_with (first
       | ((with_reducible show wpList _ _ _ (⟨none, Op.store _ (Operand.tmp 2) _, _, _, _, _⟩ :: _) _ _); refine wpl_store_all _ rfl 37 _ _ rfl (w.heap.size + 1) 37 [_, _, _, _, _, _, _, _, _] HB8.out rfl [.int .i64 r2.n, .slice xa xn xc, .slice ya yn yc, .bool r2.armed, .bool r2.down, .int .i64 r2.after, .int .u32 0, (.slice none 0 0), .bool false] rfl rfl size_l5 (by simp [Value.oneCell']) ?_; intro w9 hbn hmn hszn; have HFX := qh (hmn.ext HXT.out (fun k e => by omega)); obtain ⟨d0, d1, d2, d3, d4, d5, d6, d7, d8, g0, g1, g2, g3, g4, g5, g6, g7, g8⟩ := nine_facts hbn; clear hbn hmn hszn)
       | fail)
      refine bodyPost_ret (v := .tuple #[.agg #[.int .i64 r2.n, .slice xa xn xc, .slice ya yn yc, .bool r2.armed, .bool r2.down, .int .i64 r2.after, .int .u32 0, (.slice none 0 0), .bool false], .int .i64 (e2)]) (by simp [results, Tryz.results30, go_sem, d0, d1, d2, d3, d4, d5, d6, d7, d8]) rfl ?_
      rw [HO.out]
      unfold OpenOut lgv
      exact ⟨r2, .slice xa xn xc, .slice ya yn yc, .slice none 0 0, 0, false, rfl, ⟨_, _, _, rfl⟩, ⟨_, _, _, rfl⟩, ⟨_, _, _, rfl⟩, HFX.out, fun h => absurd h HZ.out⟩
    | true =>
     have HLE : Hid (W5.list d = W5.read d gen) := HLI.out.trans (if_pos rfl)
     go_wp2_with fail
     refine (HRE2.out w3 HRO3.out.ext).mono ?_
     clear HRE2
     rintro e w4 ⟨nv, rfl, hown, hx4⟩
     have HRO4 := qh (HRO3.out.after hx4)
     have HNR := qh (Reads.of_own hown (str_one _))
     obtain ⟨na, nc, rfl⟩ := str_shape HNR.out
     have HNR2 : Hid (Reads w4 (.slice na (W5.read d gen).length nc) ((W5.list d).map strV)) := by unfold Hid; rw [HLE.out]; exact HNR.out
     have HC := qh (HRW.out w4 _ HRO4.out HNR2.out)
     generalize (W5.read d gen).length = nn at *
     clear hown hx4 HRO3 HNR HNR2 c0 c1 c2 c3 c4 c5
     obtain ⟨c0, c1, c2, c3, c4, c5, f0, f1, f2, f3, f4, f5⟩ := box_facts HRO4.out.b0
     clear f0 f1 f2 f3 f4 f5
     dsimp only
     go_wp2_with fail
     refine HC.out.mono ?_
     clear HC
     rintro e w6 ⟨r2, sv', wv', lv', rfl, hl, hlb, hx6⟩
     unfold lgv
     obtain ⟨L2, e2⟩ := RR
     simp only at hl HO
     obtain ⟨xa, xn, xc, hsv⟩ := hl.at_.safe.any
     obtain ⟨ya, yn, yc, hwv⟩ := hl.at_.wait.any
     obtain ⟨za, zc, hlv⟩ := str_shape (Reads.of_own hl.row (str_one _))
     subst hsv
     subst hwv
     subst hlv
     generalize hzn : L2.recs.length = zn at *
     have HZN := qh hzn
     clear hzn
     have HRO6 := qh (HRO4.out.after hx6)
     have HL6 := qh (hl.more (new_new HRO4.out.ext hx6))
     have HLB6 := qh hlb
     clear hl hx6 hlb HRW HRO4 c0 c1 c2 c3 c4 c5
     clear hF1 hF2 hfc hGi hgl h3i
     dsimp only
     have HX7 := qh (Ext.of_alloc w6 (.cells #[.int .i64 0, .slice none 0 0, .slice none 0 0, .bool false, .bool false, .int .i64 0, .int .u32 0, .slice none 0 0, .bool false] 37))
     have HZ8 : Hid ((w6.alloc (.cells #[.int .i64 0, .slice none 0 0, .slice none 0 0, .bool false, .bool false, .int .i64 0, .int .u32 0, .slice none 0 0, .bool false] 37)).heap[w6.heap.size]? = some (.cells #[.int .i64 0, .slice none 0 0, .slice none 0 0, .bool false, .bool false, .int .i64 0, .int .u32 0, .slice none 0 0, .bool false] 37 (0, 0))) := heap_alloc_new w6 _
     go_upto_region 13 with (first
      | ((with_reducible show wpList _ _ _ (⟨none, Op.store _ (Operand.tmp 8) _, _, _, _, _⟩ :: _) _ _); refine wpl_store_all _ rfl 37 _ _ rfl w6.heap.size 37 [_, _, _, _, _, _, _, _, _] HZ8.out rfl [.int .i64 r2.n, .slice xa xn xc, .slice ya yn yc, .bool r2.armed, .bool r2.down, .int .i64 r2.after, .int .u32 (L2.gen : Int), (.slice za zn zc), .bool L2.cl] rfl rfl size_l5 (by simp [Value.oneCell']) ?_; intro w8 hbn hmn hszn; have HM8 := qh hmn; have HN8 := qh hbn; obtain ⟨c0, c1, c2, c3, c4, c5, c6, c7, c8, f0, f1, f2, f3, f4, f5, f6, f7, f8⟩ := nine_facts hbn; clear hbn hmn hszn)
      | fail)
     have hs6 : w.heap.size + 1 < w6.heap.size := blk_lt HRO6.out.b1
     have HXT := qh (HM8.out.ext ((HRO6.out.ext).trans HX7.out) (fun k e => by omega))
     have HL8 := qh (((HL6.out.ext HX7.out).store5 HZ8.out HM8.out).more (New.up (Nat.le_trans HX7.out.size HM8.out.size)))
     have HB8 := qh (blk_mod (blk_mod (F := fun _ => False) HRO6.out.b1 (Mod.of_ext HX7.out) (fun h => h)) HM8.out (by omega))
     clear HX7 HZ8 HM8 HL6 HRO6
     by_cases hz : e2 = 0
     ·subst hz
      go_wp2_with (first
       | ((with_reducible show wpList _ _ _ (⟨none, Op.store _ (Operand.tmp 2) _, _, _, _, _⟩ :: _) _ _); refine wpl_store_all _ rfl 37 _ _ rfl (w.heap.size + 1) 37 [_, _, _, _, _, _, _, _, _] HB8.out rfl [.int .i64 r2.n, .slice xa xn xc, .slice ya yn yc, .bool r2.armed, .bool r2.down, .int .i64 r2.after, .int .u32 (L2.gen : Int), (.slice za zn zc), .bool L2.cl] rfl rfl size_l5 (by simp [Value.oneCell']) ?_; intro w9 hbn hmn hszn; have HFX := qh (hmn.ext HXT.out (fun k e => by omega)); have HFL := qh ((HL8.out.store5 HB8.out hmn).more (New.up hmn.size)); obtain ⟨d0, d1, d2, d3, d4, d5, d6, d7, d8, g0, g1, g2, g3, g4, g5, g6, g7, g8⟩ := nine_facts hbn; clear hbn hmn hszn)
       | fail)
      refine bodyPost_ret (v := .tuple #[.agg #[.int .i64 r2.n, .slice xa xn xc, .slice ya yn yc, .bool r2.armed, .bool r2.down, .int .i64 r2.after, .int .u32 (L2.gen : Int), (.slice za zn zc), .bool L2.cl], .int .i64 (0)]) (by simp [results, Tryz.results30, go_sem, d0, d1, d2, d3, d4, d5, d6, d7, d8]) rfl ?_
      rw [HO.out]
      unfold OpenOut lgv
      exact ⟨r2, .slice xa xn xc, .slice ya yn yc, .slice za zn zc, L2.gen, L2.cl, rfl, ⟨_, _, _, rfl⟩, ⟨_, _, _, rfl⟩, ⟨_, _, _, rfl⟩, HFX.out, fun _ => ⟨rfl, rfl, HFL.out, HLB6.out⟩⟩
     ·have hzn2 : (e2 != 0) = true := by rw [bne_iff_ne]; exact hz
      have HZ := qh hz
      clear hz
      go_wp2_with (first
       | ((with_reducible show wpList _ _ _ (⟨none, Op.store _ (Operand.tmp 2) _, _, _, _, _⟩ :: _) _ _); refine wpl_store_all _ rfl 37 _ _ rfl (w.heap.size + 1) 37 [_, _, _, _, _, _, _, _, _] HB8.out rfl [.int .i64 r2.n, .slice xa xn xc, .slice ya yn yc, .bool r2.armed, .bool r2.down, .int .i64 r2.after, .int .u32 0, (.slice none 0 0), .bool false] rfl rfl size_l5 (by simp [Value.oneCell']) ?_; intro w9 hbn hmn hszn; have HFX := qh (hmn.ext HXT.out (fun k e => by omega)); obtain ⟨d0, d1, d2, d3, d4, d5, d6, d7, d8, g0, g1, g2, g3, g4, g5, g6, g7, g8⟩ := nine_facts hbn; clear hbn hmn hszn)
       | fail)
      refine bodyPost_ret (v := .tuple #[.agg #[.int .i64 r2.n, .slice xa xn xc, .slice ya yn yc, .bool r2.armed, .bool r2.down, .int .i64 r2.after, .int .u32 0, (.slice none 0 0), .bool false], .int .i64 (e2)]) (by simp [results, Tryz.results30, go_sem, d0, d1, d2, d3, d4, d5, d6, d7, d8]) rfl ?_
      rw [HO.out]
      unfold OpenOut lgv
      exact ⟨r2, .slice xa xn xc, .slice ya yn yc, .slice none 0 0, 0, false, rfl, ⟨_, _, _, rfl⟩, ⟨_, _, _, rfl⟩, ⟨_, _, _, rfl⟩, HFX.out, fun h => absurd h HZ.out⟩
end Go.Proofs.YtnjfioikpajhlaaGreat
