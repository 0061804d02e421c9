import Derived.Test.YtnjfioikpajhlaaGreatRefI6
import Derived.Test.YtnjfioikpajhlaaGreatRefJ6
import Derived.Test.YtnjfioikpajhlaaGreatPlainP
set_option maxRecDepth 100000
set_option maxHeartbeats 64000000
/- The document's store: Commit. (Printed by tools/mkrefk6.py.) -/
namespace Go.Proofs.YtnjfioikpajhlaaGreat
open Go.RowKit Go.Shelf
theorem results_s3 {fn : Func} {c d f : Tmp} (h : fn.results = #[.cell c 41, .tmp d, .tmp f]) (tmps : Array Value) (w : World) (g : Nat) (t : TypeId) (cs : Array Value) (fr : Nat × Nat)
 (hp : tmps.getD c undef = .pointer (some ⟨g, 0, none⟩)) (hg : w.heap[g]? = some (.cells cs t fr)) (hi : (Tryz.prog.info? 41).map (·.size) = some cs.size) :
 (results fn tmps).run Tryz.prog w = .ok (.tuple #[.agg cs, tmps.getD d undef, tmps.getD f undef]) w := by
 have hp' : tmps[c]?.getD undef = .pointer (some ⟨g, 0, none⟩) := by simpa using hp
 have hr := run_loadVar_row w g t 41 cs fr _ hg Tryz.underlying41 rfl hi
 simp [results, h, hp', asAddr, hr]
namespace S6
theorem wrongF_at {l : List Pr} {ws : List Wr} {i : Nat} (h : i < ws.length) : wrongF l (ws.take i) (ws.drop i) = if wrongOne l (ws.take i) ws[i] ≠ 0 then wrongOne l (ws.take i) ws[i] else wrongF l (ws.take (i + 1)) (ws.drop (i + 1)) := by
 rw [List.drop_eq_getElem_cons h, List.take_succ_eq_append_getElem h]
 rfl
theorem commit_cl {S : St} {ws : List Wr} (h : S.cl = true) : commit S ws = (S, 0, 7) := by unfold commit; rw [if_pos h]
theorem commit_64 {S : St} {ws : List Wr} (h : S.cl = false) (h2 : 64 < ws.length) : commit S ws = (S, 0, 2) := by
 have e : wrongE S.l ws = 2 := by unfold wrongE; rw [if_pos h2]
 unfold commit
 rw [if_neg (by rw [h]; decide), if_pos (by rw [e]; decide), e]
theorem commit_wrong {S : St} {ws : List Wr} {o : Int} (h : S.cl = false) (h2 : ¬ 64 < ws.length) (h3 : wrongF S.l [] ws = o) (ho : o ≠ 0) : commit S ws = (S, 0, o) := by
 have e : wrongE S.l ws = o := by unfold wrongE; rw [if_neg h2]; exact h3
 unfold commit
 rw [if_neg (by rw [h]; decide), if_pos (by rw [e]; exact ho), e]
theorem commit_zero {S : St} {ws : List Wr} (h : S.cl = false) (h2 : ¬ 64 < ws.length) (h3 : wrongF S.l [] ws = 0) : Good S.l ws /\ commit S ws = if ws = [] then (S, S.num, 0)
 else if S.num = lastN then (S, 0, 11)
 else if 8192 < (batchB (S.num + 1) ws).length then (S, 0, 2)
 else if areaS S < needsL (apl S.l (S.num + 1) ws) then (S, 0, 6)
 else after S ws := by
 have e : wrongE S.l ws = 0 := by unfold wrongE; rw [if_neg h2]; exact h3
 refine ⟨wrong_good e, ?_⟩
 unfold commit
 rw [if_neg (by rw [h]; decide), if_neg (by rw [e]; decide)]
end S6
theorem box12_nine {v : World} {b : Nat} {a0 a1 a2 a3 a4 a5 a6 a7 a8 a9 a10 a11 : Value} {e : TypeId} (h : v.heap[b]? = some (.cells #[a0, a1, a2, a3, a4, a5, a6, a7, a8, a9, a10, a11] e (0, 0))) :
 v.cell? ⟨b, 0, none⟩ = some a0 /\ v.cell? ⟨b, 1, none⟩ = some a1 /\ v.cell? ⟨b, 2, none⟩ = some a2 /\ v.cell? ⟨b, 3, none⟩ = some a3 /\ v.cell? ⟨b, 4, none⟩ = some a4 /\ v.cell? ⟨b, 5, none⟩ = some a5 /\ v.cell? ⟨b, 6, none⟩ = some a6 /\ v.cell? ⟨b, 7, none⟩ = some a7 /\ v.cell? ⟨b, 8, none⟩ = some a8 := by
 obtain ⟨c0, c1, c2, c3, c4, c5, c6, c7, c8, _, _, _⟩ := box12 h
 exact ⟨c0, c1, c2, c3, c4, c5, c6, c7, c8⟩
def Commit6Out (w w' : World) (X : Nat -> Prop) (x : S6.St × Nat × Int) (B : Nat) (e : Ending) : Prop :=
 ∃ r' sv' wv' lv' pv', e = .returned (.tuple #[s6v (gL r' sv' wv' x.1.L.gen lv' x.1.L.cl) pv' x.1.num x.1.cl, .int .u64 (x.2.1 : Int), .int .i64 x.2.2]) /\ Ext w w' /\ RefS w' (New X w w') x.1 r' sv' wv' lv' pv' /\ R4.len r' <= B
theorem Commit6Out.same {w w' : World} {X : Nat -> Prop} {S : S6.St} {r : Ref4} {sv wv lv pv : Value} {c : Bool} (h : RefS w X S r sv wv lv pv) (hc : S.cl = c) (hx : Ext w w') (k : Nat) (e : Int) {B : Nat} (hB : R4.len r <= B) :
 Commit6Out w w' X (S, k, e) B (.returned (.tuple #[s6v (gL r sv wv S.L.gen lv S.L.cl) pv S.num c, .int .u64 (k : Int), .int .i64 e])) := by
 subst hc
 exact ⟨r, sv, wv, lv, pv, rfl, hx, h.all hx, hB⟩
structure K6 (w wx : World) (X : Nat -> Prop) (b : Nat) (B0 : Array Value) (L : W5.Lg) (r2 : Ref4) (sv2 wv2 lv2 pv2 : Value) (l2 : List S6.Pr) (N1 B : Nat) : Prop where
 ext : Ext w wx
 lo : w.heap.size + 2 <= b
 box0 : wx.heap[w.heap.size]? = some (.cells B0 41 (0, 0))
 box1 : wx.heap[w.heap.size + 1]? = some (.cells #[.int .i64 0, .slice none 0 0, .slice none 0 0, .bool false, .bool false, .int .i64 0, .int .u32 0, .slice none 0 0, .bool false, .slice none 0 0, .int .u64 0, .bool false] 41 (0, 0))
 box : wx.heap[b]? = some (.cells #[.int .i64 r2.n, sv2, wv2, .bool r2.armed, .bool r2.down, .int .i64 r2.after, .int .u32 (L.gen : Int), lv2, .bool L.cl, pv2, .int .u64 (N1 : Int), .bool false] 41 (0, 0))
 log : RefL wx (New X w wx) L r2 sv2 wv2 lv2
 prs : RPs wx pv2 l2
 px : ∀ k, pv2.ownBlock = some k -> New X w wx k /\ k ≠ w.heap.size /\ k ≠ w.heap.size + 1 /\ k ≠ b /\ k < wx.heap.size
 len : R4.len r2 <= B
theorem New.of_sub {X : Nat -> Prop} {w wd w' : World} (h : w.heap.size <= wd.heap.size) : ∀ k, New X wd w' k -> New X w w' k := fun k hk => hk.imp id (fun a => ⟨Nat.le_trans h a.1, a.2⟩)
theorem K6.make {w wd w7 w8 : World} {X : Nat -> Prop} {b : Nat} {B0 : Array Value} {L : W5.Lg} {r2 : Ref4} {sv2 wv2 lv2 pv2 a0 a1 a2 a3 a4 a5 a6 a7 a8 : Value} {l2 : List S6.Pr} {N1 B : Nat} (hx : Ext w wd) (hlo : w.heap.size + 2 <= b)
 (h0 : wd.heap[w.heap.size]? = some (.cells B0 41 (0, 0))) (h1 : wd.heap[w.heap.size + 1]? = some (.cells #[.int .i64 0, .slice none 0 0, .slice none 0 0, .bool false, .bool false, .int .i64 0, .int .u32 0, .slice none 0 0, .bool false, .slice none 0 0, .int .u64 0, .bool false] 41 (0, 0)))
 (hb : wd.heap[b]? = some (.cells #[a0, a1, a2, a3, a4, a5, a6, a7, a8, pv2, .int .u64 (N1 : Int), .bool false] 41 (0, 0)))
 (hp : RPs wd pv2 l2) (hpx : ∀ k, pv2.ownBlock = some k -> New X w wd k /\ k ≠ w.heap.size /\ k ≠ w.heap.size + 1 /\ k ≠ b /\ k < wd.heap.size)
 (h7 : Ext wd w7) (hL : RefL w7 (New X wd w7) L r2 sv2 wv2 lv2) (hm : w8 = w7.setCells b 0 [.int .i64 r2.n, sv2, wv2, .bool r2.armed, .bool r2.down, .int .i64 r2.after, .int .u32 (L.gen : Int), lv2, .bool L.cl]) (hB : R4.len r2 <= B) : K6 w w8 X b B0 L r2 sv2 wv2 lv2 pv2 l2 N1 B := by
 have hbl := blk_lt hb
 have h0l := blk_lt h0
 have h1l := blk_lt h1
 have hb7 := (Below.block (B := wd.heap.size) h7 b hbl).trans hb
 have hmod : Mod (fun k => k = b) w7 w8 := by rw [hm]; exact mod_setCells _ w7 b 0 _ rfl
 have hb8 : w8.heap[b]? = some (.cells #[.int .i64 r2.n, sv2, wv2, .bool r2.armed, .bool r2.down, .int .i64 r2.after, .int .u32 (L.gen : Int), lv2, .bool L.cl, pv2, .int .u64 (N1 : Int), .bool false] 41 (0, 0)) := by
  rw [hm, blk_setCells b 41 [.int .i64 r2.n, sv2, wv2, .bool r2.armed, .bool r2.down, .int .i64 r2.after, .int .u32 (L.gen : Int), lv2, .bool L.cl] 0 w7 [a0, a1, a2, a3, a4, a5, a6, a7, a8, pv2, .int .u64 (N1 : Int), .bool false] hb7 (by simp)]
  simp
 have hsz := hx.size
 have hn : ∀ k, New X wd w7 k -> New X w w8 k := fun k hk => New.up hmod.size k (New.of_sub hsz k hk)
 refine ⟨Mod.ext (hx.trans h7) hmod (fun z hz => by omega), hlo, ?_, ?_, hb8, (hL.store12 hb7 hmod).more hn, (hp.ext h7).mod hmod (fun k hk e => (hpx k hk).2.2.2.1 e), fun k hk => ?_, hB⟩
 ·exact blk_mod ((Below.block (B := wd.heap.size) h7 w.heap.size h0l).trans h0) hmod (by omega)
 ·exact blk_mod ((Below.block (B := wd.heap.size) h7 (w.heap.size + 1) h1l).trans h1) hmod (by omega)
 ·obtain ⟨q1, q2, q3, q4, q5⟩ := hpx k hk
  exact ⟨New.up (Nat.le_trans h7.size hmod.size) k q1, q2, q3, q4, Nat.lt_of_lt_of_le q5 (Nat.le_trans h7.size hmod.size)⟩
theorem K6.done {w wx wE : World} {X : Nat -> Prop} {b : Nat} {B0 : Array Value} {L : W5.Lg} {r2 : Ref4} {sv2 wv2 lv2 pv2 : Value} {l2 : List S6.Pr} {N1 B : Nat} (h : K6 w wx X b B0 L r2 sv2 wv2 lv2 pv2 l2 N1 B) (hm : Mod (fun k => k = w.heap.size + 1) wx wE) :
 Commit6Out w wE X (⟨L, l2, N1, false⟩, N1, 0) B (.returned (.tuple #[s6v (gL r2 sv2 wv2 L.gen lv2 L.cl) pv2 N1 false, .int .u64 (N1 : Int), .int .i64 0])) :=
 ⟨r2, sv2, wv2, lv2, pv2, rfl, Mod.ext h.ext hm (fun z hz => by omega), ⟨(h.log.store12 h.box1 hm).more (New.up hm.size), h.prs.mod hm (fun k hk e => (h.px k hk).2.2.1 e), fun k hk => New.up hm.size k (h.px k hk).1, fun k hk => Nat.lt_of_lt_of_le (h.px k hk).2.2.2.2 hm.size⟩, h.len⟩
theorem K6.fail {w wx wa wb wE : World} {X : Nat -> Prop} {b : Nat} {B0 A1 : Array Value} {S : S6.St} {L : W5.Lg} {r r2 : Ref4} {sv wv lv pv sv2 wv2 lv2 pv2 : Value} {l2 : List S6.Pr} {N1 B : Nat} {c : Bool} {e : Int} (h : K6 w wx X b B0 L r2 sv2 wv2 lv2 pv2 l2 N1 B) (h0 : RefS w X S r sv wv lv pv)
 (hma : Mod (fun k => k = w.heap.size) wx wa) (hba : wa.heap[w.heap.size]? = some (.cells A1 41 (0, 0))) (hmb : Mod (fun k => k = w.heap.size) wa wb) (hm : Mod (fun k => k = w.heap.size + 1) wb wE) :
 Commit6Out w wE X (⟨L, S.l, S.num, c⟩, 0, e) B (.returned (.tuple #[s6v (gL r2 sv2 wv2 L.gen lv2 L.cl) pv S.num c, .int .u64 0, .int .i64 e])) := by
 have hb1 := blk_mod (blk_mod h.box1 hma (by omega)) hmb (by omega)
 have hx : Ext w wE := Mod.ext (Mod.ext (Mod.ext h.ext hma (fun z hz => by omega)) hmb (fun z hz => by omega)) hm (fun z hz => by omega)
 exact ⟨r2, sv2, wv2, lv2, pv, rfl, hx, ⟨(((h.log.store12 h.box0 hma).store12 hba hmb).store12 hb1 hm).more (New.up (Nat.le_trans hma.size (Nat.le_trans hmb.size hm.size))), h0.prs.ext hx, fun k hk => .inl (h0.pX k hk), fun k hk => Nat.lt_of_lt_of_le (h0.pL k hk) hx.size⟩, h.len⟩
theorem K6.box1_at {w wx wa wb : World} {X : Nat -> Prop} {b : Nat} {B0 : Array Value} {L : W5.Lg} {r2 : Ref4} {sv2 wv2 lv2 pv2 : Value} {l2 : List S6.Pr} {N1 B : Nat} (h : K6 w wx X b B0 L r2 sv2 wv2 lv2 pv2 l2 N1 B) (hma : Mod (fun k => k = w.heap.size) wx wa) (hmb : Mod (fun k => k = w.heap.size) wa wb) :
 wb.heap[w.heap.size + 1]? = some (.cells #[.int .i64 0, .slice none 0 0, .slice none 0 0, .bool false, .bool false, .int .i64 0, .int .u32 0, .slice none 0 0, .bool false, .slice none 0 0, .int .u64 0, .bool false] 41 (0, 0)) := blk_mod (blk_mod h.box1 hma (by omega)) hmb (by omega)
theorem refCommit6 (S : S6.St) (n : Int) (Bd : Nat) (r : Ref4) (X : Nat -> Prop) (sv wv lv pv yv : Value) (ws : List S6.Wr) (w : World) (h : RefS w X S r sv wv lv pv) (hI : S6.PInv S n Bd) (hBd : Bd <= 1000) (hok : D.Ok S.L.d) (hy : RWs w yv ws) (hwl : ws.length <= 10000) (hlen : R4.len r <= 600000) :
 Calls Tryz.prog 9 #[s6v (gL r sv wv S.L.gen lv S.L.cl) pv S.num S.cl, yv] w fun e w' => Commit6Out w w' X (S6.commit S ws) (R4.len r + 2048) e := by
 have H := qh h
 obtain ⟨sa, sn, sc, hsv⟩ := h.log.at_.safe.any
 obtain ⟨wa, wn, wc', hwv⟩ := h.log.at_.wait.any
 subst hsv
 subst hwv
 obtain ⟨la, lc, rfl⟩ := str_shape (Reads.of_own h.log.row (str_one _))
 obtain ⟨-, pa, pc, rfl, -, -⟩ := h.prs.shape
 obtain ⟨-, ya, yc, rfl, -⟩ := hy.shape
 have HI := qh hI
 have HOK := qh hok
 have HY := qh hy
 have hnum := hI.fit.num
 have hlnl := hI.fit.len
 have HFT := qh hI.fit
 have hwli : (ws.length : Int) <= 10000 := by omega
 generalize hB : R4.len r + 2048 = B at *
 generalize hR : S6.commit S ws = R at *
 have HR0 := qh hR
 clear h hI hok hy hR
 unfold gL s6v
 simp only
 by_cases hcl : S.cl = true
 ·have HR : Hid (R = (S, 0, 7)) := HR0.out.symm.trans (S6.commit_cl hcl)
  rw [hcl]
  clear HR0
  have hx1 := (Ext.of_alloc w (.cells #[.int .i64 r.n, .slice sa sn sc, .slice wa wn wc', .bool r.armed, .bool r.down, .int .i64 r.after, .int .u32 (S.L.gen : Int), .slice la S.L.recs.length lc, .bool S.L.cl, .slice pa S.l.length pc, .int .u64 (S.num : Int), .bool true] 41)).alloc (.cells #[.int .i64 0, .slice none 0 0, .slice none 0 0, .bool false, .bool false, .int .i64 0, .int .u32 0, .slice none 0 0, .bool false, .slice none 0 0, .int .u64 0, .bool false] 41)
  obtain ⟨hb0, hb1⟩ := two_boxes' w #[.int .i64 r.n, .slice sa sn sc, .slice wa wn wc', .bool r.armed, .bool r.down, .int .i64 r.after, .int .u32 (S.L.gen : Int), .slice la S.L.recs.length lc, .bool S.L.cl, .slice pa S.l.length pc, .int .u64 (S.num : Int), .bool true] #[.int .i64 0, .slice none 0 0, .slice none 0 0, .bool false, .bool false, .int .i64 0, .int .u32 0, .slice none 0 0, .bool false, .slice none 0 0, .int .u64 0, .bool false] 41 41
  have hs1 : ((w.alloc (.cells #[.int .i64 r.n, .slice sa sn sc, .slice wa wn wc', .bool r.armed, .bool r.down, .int .i64 r.after, .int .u32 (S.L.gen : Int), .slice la S.L.recs.length lc, .bool S.L.cl, .slice pa S.l.length pc, .int .u64 (S.num : Int), .bool true] 41)).alloc (.cells #[.int .i64 0, .slice none 0 0, .slice none 0 0, .bool false, .bool false, .int .i64 0, .int .u32 0, .slice none 0 0, .bool false, .slice none 0 0, .int .u64 0, .bool false] 41)).heap.size = w.heap.size + 2 := by simp
  obtain ⟨W1, hW1⟩ : ∃ W1, W1 = (w.alloc (.cells #[.int .i64 r.n, .slice sa sn sc, .slice wa wn wc', .bool r.armed, .bool r.down, .int .i64 r.after, .int .u32 (S.L.gen : Int), .slice la S.L.recs.length lc, .bool S.L.cl, .slice pa S.l.length pc, .int .u64 (S.num : Int), .bool true] 41)).alloc (.cells #[.int .i64 0, .slice none 0 0, .slice none 0 0, .bool false, .bool false, .int .i64 0, .int .u32 0, .slice none 0 0, .bool false, .slice none 0 0, .int .u64 0, .bool false] 41) := ⟨_, rfl⟩
  rw [<- hW1] at hx1 hb0 hb1 hs1
  have HX1 := qh hx1
  have HB0 := qh hb0
  have HB1 := qh hb1
  have HW1 := qh hW1
  have HS1 := qh hs1
  obtain ⟨c0, c1, c2, c3, c4, c5, c6, c7, c8, c9, c10, c11⟩ := box12 hb0
  clear hx1 hb0 hb1 hW1 hs1
  go_enter Tryz.func9, Tryz.ntmps9
  go_upto_region 1 with fail
  rw [show (w.alloc (.cells #[.int .i64 r.n, .slice sa sn sc, .slice wa wn wc', .bool r.armed, .bool r.down, .int .i64 r.after, .int .u32 (S.L.gen : Int), .slice la S.L.recs.length lc, .bool S.L.cl, .slice pa S.l.length pc, .int .u64 (S.num : Int), .bool true] 41)).alloc (.cells #[.int .i64 0, .slice none 0 0, .slice none 0 0, .bool false, .bool false, .int .i64 0, .int .u32 0, .slice none 0 0, .bool false, .slice none 0 0, .int .u64 0, .bool false] 41) = W1 from HW1.out.symm]
  clear HW1
  have HXF := qh (HX1.out)
  have HB1F := qh ((Below.block (B := W1.heap.size) (Ext.refl _) (w.heap.size + 1) (by have := HS1.out; omega)).trans HB1.out)
  generalize W1 = WF at *
  have HTH := qh (there_blk (cs := [.int .i64 0, .slice none 0 0, .slice none 0 0, .bool false, .bool false, .int .i64 0, .int .u32 0, .slice none 0 0, .bool false, .slice none 0 0, .int .u64 0, .bool false]) HB1F.out 0 12 (by simp))
  have hms := mod_setCells (fun z => z = w.heap.size + 1) WF (w.heap.size + 1) 0 [.int .i64 r.n, .slice sa sn sc, .slice wa wn wc', .bool r.armed, .bool r.down, .int .i64 r.after, .int .u32 (S.L.gen : Int), .slice la S.L.recs.length lc, .bool S.L.cl, .slice pa S.l.length pc, .int .u64 (S.num : Int), .bool true] rfl
  have HMS := qh hms
  clear hms
  go_wp2_with (first
   | ((with_reducible show wpList _ _ _ (⟨none, Op.store _ _ _, _, _, _, _⟩ :: _) _ _); refine wpList_store_mid rfl 41 _ _ rfl (w.heap.size + 1) 0 #[.int .i64 r.n, .slice sa sn sc, .slice wa wn wc', .bool r.armed, .bool r.down, .int .i64 r.after, .int .u32 (S.L.gen : Int), .slice la S.L.recs.length lc, .bool S.L.cl, .slice pa S.l.length pc, .int .u64 (S.num : Int), .bool true] (by rfl) (by rfl) HTH.out (by kernel_rfl) (by simp [Value.oneCell']) ?_)
   | fail)
  have hbs : (WF.setCells (w.heap.size + 1) 0 [.int .i64 r.n, .slice sa sn sc, .slice wa wn wc', .bool r.armed, .bool r.down, .int .i64 r.after, .int .u32 (S.L.gen : Int), .slice la S.L.recs.length lc, .bool S.L.cl, .slice pa S.l.length pc, .int .u64 (S.num : Int), .bool true]).heap[w.heap.size + 1]? = some (.cells #[.int .i64 r.n, .slice sa sn sc, .slice wa wn wc', .bool r.armed, .bool r.down, .int .i64 r.after, .int .u32 (S.L.gen : Int), .slice la S.L.recs.length lc, .bool S.L.cl, .slice pa S.l.length pc, .int .u64 (S.num : Int), .bool true] 41 (0, 0)) := by rw [blk_setCells (w.heap.size + 1) 41 [.int .i64 r.n, .slice sa sn sc, .slice wa wn wc', .bool r.armed, .bool r.down, .int .i64 r.after, .int .u32 (S.L.gen : Int), .slice la S.L.recs.length lc, .bool S.L.cl, .slice pa S.l.length pc, .int .u64 (S.num : Int), .bool true] 0 WF [.int .i64 0, .slice none 0 0, .slice none 0 0, .bool false, .bool false, .int .i64 0, .int .u32 0, .slice none 0 0, .bool false, .slice none 0 0, .int .u64 0, .bool false] HB1F.out (by simp)]; simp
  refine bodyPost_ret_by (results_s3 (c := 4) (d := 5) (f := 6) rfl _ _ (w.heap.size + 1) 41 #[.int .i64 r.n, .slice sa sn sc, .slice wa wn wc', .bool r.armed, .bool r.down, .int .i64 r.after, .int .u32 (S.L.gen : Int), .slice la S.L.recs.length lc, .bool S.L.cl, .slice pa S.l.length pc, .int .u64 (S.num : Int), .bool true] _ (by rfl) hbs (by kernel_rfl)) rfl ?_
  rw [HR.out]
  exact Commit6Out.same H.out hcl (Mod.ext HXF.out HMS.out (fun z hz => by omega)) 0 7 (by omega)
 ·replace hcl : S.cl = false := by simpa using hcl
  rw [hcl]
  have hx1 := (Ext.of_alloc w (.cells #[.int .i64 r.n, .slice sa sn sc, .slice wa wn wc', .bool r.armed, .bool r.down, .int .i64 r.after, .int .u32 (S.L.gen : Int), .slice la S.L.recs.length lc, .bool S.L.cl, .slice pa S.l.length pc, .int .u64 (S.num : Int), .bool false] 41)).alloc (.cells #[.int .i64 0, .slice none 0 0, .slice none 0 0, .bool false, .bool false, .int .i64 0, .int .u32 0, .slice none 0 0, .bool false, .slice none 0 0, .int .u64 0, .bool false] 41)
  obtain ⟨hb0, hb1⟩ := two_boxes' w #[.int .i64 r.n, .slice sa sn sc, .slice wa wn wc', .bool r.armed, .bool r.down, .int .i64 r.after, .int .u32 (S.L.gen : Int), .slice la S.L.recs.length lc, .bool S.L.cl, .slice pa S.l.length pc, .int .u64 (S.num : Int), .bool false] #[.int .i64 0, .slice none 0 0, .slice none 0 0, .bool false, .bool false, .int .i64 0, .int .u32 0, .slice none 0 0, .bool false, .slice none 0 0, .int .u64 0, .bool false] 41 41
  have hs1 : ((w.alloc (.cells #[.int .i64 r.n, .slice sa sn sc, .slice wa wn wc', .bool r.armed, .bool r.down, .int .i64 r.after, .int .u32 (S.L.gen : Int), .slice la S.L.recs.length lc, .bool S.L.cl, .slice pa S.l.length pc, .int .u64 (S.num : Int), .bool false] 41)).alloc (.cells #[.int .i64 0, .slice none 0 0, .slice none 0 0, .bool false, .bool false, .int .i64 0, .int .u32 0, .slice none 0 0, .bool false, .slice none 0 0, .int .u64 0, .bool false] 41)).heap.size = w.heap.size + 2 := by simp
  obtain ⟨W1, hW1⟩ : ∃ W1, W1 = (w.alloc (.cells #[.int .i64 r.n, .slice sa sn sc, .slice wa wn wc', .bool r.armed, .bool r.down, .int .i64 r.after, .int .u32 (S.L.gen : Int), .slice la S.L.recs.length lc, .bool S.L.cl, .slice pa S.l.length pc, .int .u64 (S.num : Int), .bool false] 41)).alloc (.cells #[.int .i64 0, .slice none 0 0, .slice none 0 0, .bool false, .bool false, .int .i64 0, .int .u32 0, .slice none 0 0, .bool false, .slice none 0 0, .int .u64 0, .bool false] 41) := ⟨_, rfl⟩
  rw [<- hW1] at hx1 hb0 hb1 hs1
  have HX1 := qh hx1
  have HB0 := qh hb0
  have HB1 := qh hb1
  have HW1 := qh hW1
  have HS1 := qh hs1
  obtain ⟨c0, c1, c2, c3, c4, c5, c6, c7, c8, c9, c10, c11⟩ := box12 hb0
  clear hx1 hb0 hb1 hW1 hs1
  go_enter Tryz.func9, Tryz.ntmps9
  go_upto_region 1 with fail
  rw [show (w.alloc (.cells #[.int .i64 r.n, .slice sa sn sc, .slice wa wn wc', .bool r.armed, .bool r.down, .int .i64 r.after, .int .u32 (S.L.gen : Int), .slice la S.L.recs.length lc, .bool S.L.cl, .slice pa S.l.length pc, .int .u64 (S.num : Int), .bool false] 41)).alloc (.cells #[.int .i64 0, .slice none 0 0, .slice none 0 0, .bool false, .bool false, .int .i64 0, .int .u32 0, .slice none 0 0, .bool false, .slice none 0 0, .int .u64 0, .bool false] 41) = W1 from HW1.out.symm]
  clear HW1
  by_cases h64 : 64 < ws.length
  ·have HR : Hid (R = (S, 0, 2)) := HR0.out.symm.trans (S6.commit_64 hcl h64)
   have h64i : (64 : Int) < (ws.length : Int) := by omega
   clear HR0
   have HXF := qh (HX1.out)
   have HB1F := qh ((Below.block (B := W1.heap.size) (Ext.refl _) (w.heap.size + 1) (by have := HS1.out; omega)).trans HB1.out)
   generalize W1 = WF at *
   have HTH := qh (there_blk (cs := [.int .i64 0, .slice none 0 0, .slice none 0 0, .bool false, .bool false, .int .i64 0, .int .u32 0, .slice none 0 0, .bool false, .slice none 0 0, .int .u64 0, .bool false]) HB1F.out 0 12 (by simp))
   have hms := mod_setCells (fun z => z = w.heap.size + 1) WF (w.heap.size + 1) 0 [.int .i64 r.n, .slice sa sn sc, .slice wa wn wc', .bool r.armed, .bool r.down, .int .i64 r.after, .int .u32 (S.L.gen : Int), .slice la S.L.recs.length lc, .bool S.L.cl, .slice pa S.l.length pc, .int .u64 (S.num : Int), .bool false] rfl
   have HMS := qh hms
   clear hms
   go_wp2_with (first
    | ((with_reducible show wpList _ _ _ (⟨none, Op.store _ _ _, _, _, _, _⟩ :: _) _ _); refine wpList_store_mid rfl 41 _ _ rfl (w.heap.size + 1) 0 #[.int .i64 r.n, .slice sa sn sc, .slice wa wn wc', .bool r.armed, .bool r.down, .int .i64 r.after, .int .u32 (S.L.gen : Int), .slice la S.L.recs.length lc, .bool S.L.cl, .slice pa S.l.length pc, .int .u64 (S.num : Int), .bool false] (by rfl) (by rfl) HTH.out (by kernel_rfl) (by simp [Value.oneCell']) ?_)
    | fail)
   have hbs : (WF.setCells (w.heap.size + 1) 0 [.int .i64 r.n, .slice sa sn sc, .slice wa wn wc', .bool r.armed, .bool r.down, .int .i64 r.after, .int .u32 (S.L.gen : Int), .slice la S.L.recs.length lc, .bool S.L.cl, .slice pa S.l.length pc, .int .u64 (S.num : Int), .bool false]).heap[w.heap.size + 1]? = some (.cells #[.int .i64 r.n, .slice sa sn sc, .slice wa wn wc', .bool r.armed, .bool r.down, .int .i64 r.after, .int .u32 (S.L.gen : Int), .slice la S.L.recs.length lc, .bool S.L.cl, .slice pa S.l.length pc, .int .u64 (S.num : Int), .bool false] 41 (0, 0)) := by rw [blk_setCells (w.heap.size + 1) 41 [.int .i64 r.n, .slice sa sn sc, .slice wa wn wc', .bool r.armed, .bool r.down, .int .i64 r.after, .int .u32 (S.L.gen : Int), .slice la S.L.recs.length lc, .bool S.L.cl, .slice pa S.l.length pc, .int .u64 (S.num : Int), .bool false] 0 WF [.int .i64 0, .slice none 0 0, .slice none 0 0, .bool false, .bool false, .int .i64 0, .int .u32 0, .slice none 0 0, .bool false, .slice none 0 0, .int .u64 0, .bool false] HB1F.out (by simp)]; simp
   refine bodyPost_ret_by (results_s3 (c := 4) (d := 5) (f := 6) rfl _ _ (w.heap.size + 1) 41 #[.int .i64 r.n, .slice sa sn sc, .slice wa wn wc', .bool r.armed, .bool r.down, .int .i64 r.after, .int .u32 (S.L.gen : Int), .slice la S.L.recs.length lc, .bool S.L.cl, .slice pa S.l.length pc, .int .u64 (S.num : Int), .bool false] _ (by rfl) hbs (by kernel_rfl)) rfl ?_
   rw [HR.out]
   exact Commit6Out.same H.out hcl (Mod.ext HXF.out HMS.out (fun z hz => by omega)) 0 2 (by omega)
  ·have h64i : decide ((64 : Int) < (ws.length : Int)) = false := decide_eq_false (by omega)
   go_wp2_with fail
   go_loopw [7] (fun iv wr => ∃ i : Nat, i <= ws.length /\ iv = .int .i64 (i : Int) /\ Hid (S6.wrongF S.l (ws.take i) (ws.drop i) = S6.wrongF S.l [] ws) /\ Hid (Ext W1 wr)) (fun iv _ => ws.length - (intOf iv).toNat)
   case atStart => exact ⟨0, Nat.zero_le _, rfl, rfl, Ext.refl _⟩
   case round =>
    obtain ⟨i, hi, rfl, hF, hX⟩ := hrel
    clear c0 c1 c2 c3 c4 c5 c6 c7 c8 c9 c10 c11
    have HB0r := qh ((Below.block (B := W1.heap.size) hX.out w.heap.size (by have := HS1.out; omega)).trans HB0.out)
    obtain ⟨f0, f1, f2, f3, f4, f5, f6, f7, f8, f9, f10, f11⟩ := box12 HB0r.out
    by_cases hlt : i < ws.length
    ·have hlti : (i : Int) < (ws.length : Int) := by omega
     have hwr := refWrong6 wr (gL r (.slice sa sn sc) (.slice wa wn wc') S.L.gen (.slice la S.L.recs.length lc) S.L.cl) (.slice pa S.l.length pc) S.num false S.l (.slice ya ws.length yc) ws i (H.out.prs.ext (HX1.out.trans hX.out)) (by omega) (HY.out.ext (HX1.out.trans hX.out)) hlt (by omega)
     have hat := S6.wrongF_at (l := S.l) hlt
     rw [hF.out] at hat
     have HAT := qh hat
     clear hat hF
     generalize S6.wrongOne S.l (ws.take i) ws[i] = o at *
     have HWR := qh hwr
     clear hwr
     unfold gL s6v at HWR
     simp only at HWR
     go_wp2_with fail
     refine HWR.out.mono ?_
     clear HWR f0 f1 f2 f3 f4 f5 f6 f7 f8 f9 f10 f11
     rintro e w3 ⟨rfl, hx3⟩
     have HX3 := qh (hX.out.trans hx3)
     clear hx3
     by_cases ho : o = 0
     ·subst ho
      have HF2 : Hid (S6.wrongF S.l (ws.take (i + 1)) (ws.drop (i + 1)) = S6.wrongF S.l [] ws) := by
       have := HAT.out
       rw [if_neg (by simp)] at this
       exact this.symm
      clear HAT
      go_wp2_with fail
      exact ⟨⟨i + 1, by omega, by go_num, HF2, HX3⟩, by simp [intOf]; omega⟩
     ·have hob : (o != 0) = true := by rw [bne_iff_ne]; exact ho
      have HR : Hid (R = (S, 0, o)) := HR0.out.symm.trans (S6.commit_wrong hcl h64 (by rw [HAT.out, if_pos ho]) ho)
      clear HAT HR0
      have HB3 := qh ((Below.block (B := W1.heap.size) HX3.out w.heap.size (by have := HS1.out; omega)).trans HB0.out)
      obtain ⟨f0, f1, f2, f3, f4, f5, f6, f7, f8, f9, f10, f11⟩ := box12 HB3.out
      have HXF := qh (HX1.out.trans (HX3.out))
      have HB1F := qh ((Below.block (B := W1.heap.size) (HX3.out) (w.heap.size + 1) (by have := HS1.out; omega)).trans HB1.out)
      generalize w3 = WF at *
      have HTH := qh (there_blk (cs := [.int .i64 0, .slice none 0 0, .slice none 0 0, .bool false, .bool false, .int .i64 0, .int .u32 0, .slice none 0 0, .bool false, .slice none 0 0, .int .u64 0, .bool false]) HB1F.out 0 12 (by simp))
      have hms := mod_setCells (fun z => z = w.heap.size + 1) WF (w.heap.size + 1) 0 [.int .i64 r.n, .slice sa sn sc, .slice wa wn wc', .bool r.armed, .bool r.down, .int .i64 r.after, .int .u32 (S.L.gen : Int), .slice la S.L.recs.length lc, .bool S.L.cl, .slice pa S.l.length pc, .int .u64 (S.num : Int), .bool false] rfl
      have HMS := qh hms
      clear hms
      go_wp2_with (first
       | ((with_reducible show wpList _ _ _ (⟨none, Op.store _ _ _, _, _, _, _⟩ :: _) _ _); refine wpList_store_mid rfl 41 _ _ rfl (w.heap.size + 1) 0 #[.int .i64 r.n, .slice sa sn sc, .slice wa wn wc', .bool r.armed, .bool r.down, .int .i64 r.after, .int .u32 (S.L.gen : Int), .slice la S.L.recs.length lc, .bool S.L.cl, .slice pa S.l.length pc, .int .u64 (S.num : Int), .bool false] (by rfl) (by rfl) HTH.out (by kernel_rfl) (by simp [Value.oneCell']) ?_)
       | fail)
      have hbs : (WF.setCells (w.heap.size + 1) 0 [.int .i64 r.n, .slice sa sn sc, .slice wa wn wc', .bool r.armed, .bool r.down, .int .i64 r.after, .int .u32 (S.L.gen : Int), .slice la S.L.recs.length lc, .bool S.L.cl, .slice pa S.l.length pc, .int .u64 (S.num : Int), .bool false]).heap[w.heap.size + 1]? = some (.cells #[.int .i64 r.n, .slice sa sn sc, .slice wa wn wc', .bool r.armed, .bool r.down, .int .i64 r.after, .int .u32 (S.L.gen : Int), .slice la S.L.recs.length lc, .bool S.L.cl, .slice pa S.l.length pc, .int .u64 (S.num : Int), .bool false] 41 (0, 0)) := by rw [blk_setCells (w.heap.size + 1) 41 [.int .i64 r.n, .slice sa sn sc, .slice wa wn wc', .bool r.armed, .bool r.down, .int .i64 r.after, .int .u32 (S.L.gen : Int), .slice la S.L.recs.length lc, .bool S.L.cl, .slice pa S.l.length pc, .int .u64 (S.num : Int), .bool false] 0 WF [.int .i64 0, .slice none 0 0, .slice none 0 0, .bool false, .bool false, .int .i64 0, .int .u32 0, .slice none 0 0, .bool false, .slice none 0 0, .int .u64 0, .bool false] HB1F.out (by simp)]; simp
      refine bodyPost_ret_by (results_s3 (c := 4) (d := 5) (f := 6) rfl _ _ (w.heap.size + 1) 41 #[.int .i64 r.n, .slice sa sn sc, .slice wa wn wc', .bool r.armed, .bool r.down, .int .i64 r.after, .int .u32 (S.L.gen : Int), .slice la S.L.recs.length lc, .bool S.L.cl, .slice pa S.l.length pc, .int .u64 (S.num : Int), .bool false] _ (by rfl) hbs (by kernel_rfl)) rfl ?_
      rw [HR.out]
      exact Commit6Out.same H.out hcl (Mod.ext HXF.out HMS.out (fun z hz => by omega)) 0 o (by omega)
    ·obtain rfl : i = ws.length := by omega
     have hge : ¬ ((ws.length : Nat) : Int) < (ws.length : Int) := by omega
     have hz := hF.out
     rw [List.take_length, List.drop_length] at hz
     obtain ⟨hgd, hce⟩ := S6.commit_zero hcl h64 hz.symm
     rw [HR0.out] at hce
     have HG := qh hgd
     have HC := qh hce
     clear hF hz hgd hce HR0
     by_cases hws : ws = []
     ·have HR : Hid (R = (S, S.num, 0)) := HC.out.trans (if_pos hws)
      have hw0 : (ws.length : Int) = 0 := by rw [hws]; rfl
      clear HC hws
      clear f0 f1 f2 f3 f4 f5 f6 f7 f8 f9 f10 f11
      have HXF := qh (show Ext w wr.drew from (HX1.out.trans hX.out).trans (Ext.of_drew wr))
      have HB1F := qh (show wr.drew.heap[w.heap.size + 1]? = some (.cells #[.int .i64 0, .slice none 0 0, .slice none 0 0, .bool false, .bool false, .int .i64 0, .int .u32 0, .slice none 0 0, .bool false, .slice none 0 0, .int .u64 0, .bool false] 41 (0, 0)) from ((Below.block (B := W1.heap.size) hX.out (w.heap.size + 1) (by have := HS1.out; omega)).trans HB1.out))
      have HDW := qh (Ext.of_drew wr)
      have hHeld : wr.drew.heap[w.heap.size]? = some (.cells #[.int .i64 r.n, .slice sa sn sc, .slice wa wn wc', .bool r.armed, .bool r.down, .int .i64 r.after, .int .u32 (S.L.gen : Int), .slice la S.L.recs.length lc, .bool S.L.cl, .slice pa S.l.length pc, .int .u64 (S.num : Int), .bool false] 41 (0, 0)) := HB0r.out
      go_upto_region 12 with fail
      refine wp_region_C (fun v => v.heap[w.heap.size]? = some (.cells #[.int .i64 r.n, .slice sa sn sc, .slice wa wn wc', .bool r.armed, .bool r.down, .int .i64 r.after, .int .u32 (S.L.gen : Int), .slice la S.L.recs.length lc, .bool S.L.cl, .slice pa S.l.length pc, .int .u64 (S.num : Int), .bool false] 41 (0, 0))) 5 (by kernel_rfl) ?_
      generalize wr.drew = WF at *
      have HTH := qh (there_blk (cs := [.int .i64 0, .slice none 0 0, .slice none 0 0, .bool false, .bool false, .int .i64 0, .int .u32 0, .slice none 0 0, .bool false, .slice none 0 0, .int .u64 0, .bool false]) HB1F.out 0 12 (by simp))
      have hms := mod_setCells (fun z => z = w.heap.size + 1) WF (w.heap.size + 1) 0 [.int .i64 r.n, .slice sa sn sc, .slice wa wn wc', .bool r.armed, .bool r.down, .int .i64 r.after, .int .u32 (S.L.gen : Int), .slice la S.L.recs.length lc, .bool S.L.cl, .slice pa S.l.length pc, .int .u64 (S.num : Int), .bool false] rfl
      have HMS := qh hms
      clear hms
      (refine aC [5] (i := 0) (oi := ⟨some 37, _, _, _, _, _⟩) (v := ?_) rfl ?_ hHeld ?_; rotate_left; (focus (intro w hSw; ((obtain ⟨z0, z1, z2, z3, z4, z5, z6, z7, z8, z9, z10, z11⟩ := box12 hSw)); go_simp; first | done | with_reducible rfl)); try simp only [Act.put, zB, zC, zD])
      (refine aC [5] (i := 1) (oi := ⟨some 38, _, _, _, _, _⟩) (v := ?_) rfl ?_ hHeld ?_; rotate_left; (focus (intro w hSw; (skip); go_simp; first | done | with_reducible rfl)); try simp only [Act.put, zB, zC, zD])
      (refine aC [5] (i := 2) (oi := ⟨some 39, _, _, _, _, _⟩) (v := ?_) rfl ?_ hHeld ?_; rotate_left; (focus (intro w hSw; ((obtain ⟨z0, z1, z2, z3, z4, z5, z6, z7, z8, z9, z10, z11⟩ := box12 hSw)); go_simp; first | done | with_reducible rfl)); try simp only [Act.put, zB, zC, zD])
      refine wpAnyC_one (i := 3) (oi := ⟨none, _, _, _, _, _⟩) rfl (by kernel_rfl) (by decide) (fun K hK => ?_)
      rw [if_pos (by rfl)]
      refine wp_store_mid 41 _ _ rfl (w.heap.size + 1) 0 #[.int .i64 r.n, .slice sa sn sc, .slice wa wn wc', .bool r.armed, .bool r.down, .int .i64 r.after, .int .u32 (S.L.gen : Int), .slice la S.L.recs.length lc, .bool S.L.cl, .slice pa S.l.length pc, .int .u64 (S.num : Int), .bool false] rfl rfl HTH.out (by kernel_rfl) (by simp [Value.oneCell']) ?_
      have hH2 := blk_mod hHeld HMS.out (by first | omega | (have := HK.out.lo; omega))
      clear hHeld
      have hHeld := hH2
      clear hH2
      refine hK.out _ _ hHeld ?_
      clear hK K
      try simp only [Act.put, zB, zC, zD]
      (refine aC [5] (i := 4) (oi := ⟨some 5, _, _, _, _, _⟩) (v := ?_) rfl ?_ hHeld ?_; rotate_left; (focus (intro w hSw; (skip); go_simp; first | done | with_reducible rfl)); try simp only [Act.put, zB, zC, zD])
      refine wpAnyC_c (oi := ⟨some 6, _, _, _, _, _⟩) rfl (by kernel_rfl) (fun K hK => ?_)
      rw [if_pos (by rfl)]
      go_simp
      refine hK.out _ _ ?_
      clear hK K
      try simp only [Act.put, zB, zC, zD]
      refine wpAny_done (by kernel_rfl) ?_ _
      go_wp2_with fail
      have hbs : (WF.setCells (w.heap.size + 1) 0 [.int .i64 r.n, .slice sa sn sc, .slice wa wn wc', .bool r.armed, .bool r.down, .int .i64 r.after, .int .u32 (S.L.gen : Int), .slice la S.L.recs.length lc, .bool S.L.cl, .slice pa S.l.length pc, .int .u64 (S.num : Int), .bool false]).heap[w.heap.size + 1]? = some (.cells #[.int .i64 r.n, .slice sa sn sc, .slice wa wn wc', .bool r.armed, .bool r.down, .int .i64 r.after, .int .u32 (S.L.gen : Int), .slice la S.L.recs.length lc, .bool S.L.cl, .slice pa S.l.length pc, .int .u64 (S.num : Int), .bool false] 41 (0, 0)) := by rw [blk_setCells (w.heap.size + 1) 41 [.int .i64 r.n, .slice sa sn sc, .slice wa wn wc', .bool r.armed, .bool r.down, .int .i64 r.after, .int .u32 (S.L.gen : Int), .slice la S.L.recs.length lc, .bool S.L.cl, .slice pa S.l.length pc, .int .u64 (S.num : Int), .bool false] 0 WF [.int .i64 0, .slice none 0 0, .slice none 0 0, .bool false, .bool false, .int .i64 0, .int .u32 0, .slice none 0 0, .bool false, .slice none 0 0, .int .u64 0, .bool false] HB1F.out (by simp)]; simp
      refine bodyPost_ret_by (results_s3 (c := 4) (d := 5) (f := 6) rfl _ _ (w.heap.size + 1) 41 #[.int .i64 r.n, .slice sa sn sc, .slice wa wn wc', .bool r.armed, .bool r.down, .int .i64 r.after, .int .u32 (S.L.gen : Int), .slice la S.L.recs.length lc, .bool S.L.cl, .slice pa S.l.length pc, .int .u64 (S.num : Int), .bool false] _ (by rfl) hbs (by kernel_rfl)) rfl ?_
      rw [HR.out]
      exact Commit6Out.same H.out hcl (Mod.ext HXF.out HMS.out (fun z hz => by omega)) S.num 0 (by omega)
     ·have hwl0 : ¬ ws.length = 0 := fun e => hws (List.eq_nil_of_length_eq_zero e)
      have hwl1 : ((ws.length : Int) == 0) = false := by rw [beq_eq_false_iff_ne]; omega
      have HC2 := qh (HC.out.trans (if_neg hws))
      clear HC hws
      by_cases hlast : S.num = S6.lastN
      ·exfalso
       unfold S6.lastN at hlast
       omega
      ·have HC3 := qh (HC2.out.trans (if_neg hlast))
       have hll : ((S.num : Int) == 9223372036854775807) = false := by rw [beq_eq_false_iff_ne]; omega
       clear HC2 hlast
       have hX1 := hX
       obtain ⟨N1, hN1⟩ : ∃ N1, N1 = S.num + 1 := ⟨_, rfl⟩
       have hn1 : (S.num : Int) + 1 = (N1 : Int) := by omega
       have hN1b : N1 <= 1001 := by omega
       have hwrap : IntKind.u64.wrap (N1 : Int) = (N1 : Int) := by rw [IntKind.wrap_u64]; omega
       have HN1 := qh hN1
       rw [<- hN1] at HC3
       clear hN1
       have HBT := qh (fun (W : World) (hW : Ext w W) => refBatch W N1 (.slice ya ws.length yc) ws (HY.out.ext hW) (by omega) hwl (fun x hx => ⟨by have := (HG.out.ok x hx).key; omega, by have := (HG.out.ok x hx).val; omega⟩))
       have HAP := qh (fun (W : World) (hW : Ext w W) => refApply W (gL r (.slice sa sn sc) (.slice wa wn wc') S.L.gen (.slice la S.L.recs.length lc) S.L.cl) (.slice pa S.l.length pc) S.num N1 false S.l (.slice ya ws.length yc) ws (H.out.prs.ext hW) (fun k hk => Nat.lt_of_lt_of_le (H.out.pL k hk) hW.size) (by omega) HFT.out.srt (HY.out.ext hW) (by omega) ⟨rfl, rfl, rfl, rfl, rfl, rfl, rfl, rfl, rfl⟩)
       have hmx : max S.num N1 = N1 := by omega
       rw [hmx] at HAP
       have hfa := HFT.out.apl HG.out
       rw [show S.num + 1 = N1 from by omega] at hfa
       have HFA := qh hfa
       have hal := hfa.len
       have hal2 : (S6.apl S.l N1 ws).length <= 64064 := by omega
       have hafl : S6.after S ws = S6.after S ws := rfl
       have HAF : Hid (S6.after S ws = if (S6.logs S ws).2 = 0 then (⟨(S6.logs S ws).1, S6.apl S.l N1 ws, N1, false⟩, N1, 0) else (⟨(S6.logs S ws).1, S.l, S.num, decide ((S6.logs S ws).2 = 3)⟩, 0, (S6.logs S ws).2)) := by
        rw [HN1.out]; rfl
       have HLG : Hid (S6.logs S ws = if W5.need (S6.batchB N1 ws).length + W5.used S.L.recs <= S6.areaS S then W5.append S.L (S6.batchB N1 ws) else W5.renew S.L (S6.image (S6.apl S.l N1 ws) N1)) := by
        rw [HN1.out]; rfl
       clear hmx hfa hafl hal
       generalize hBB : S6.batchB N1 ws = BB at *
       have HBB := qh hBB
       clear hBB
       unfold gL s6v at HAP
       simp only at HAP
       generalize hLL : S6.apl S.l N1 ws = L2 at *
       have HLL := qh hLL
       clear hLL
       have hsz : (⟨BB.toArray⟩ : ByteArray).size = BB.length := by show BB.toArray.size = _; rw [List.size_toArray]
       go_wp2_with fail
       refine (HBT.out _ (HX1.out.trans hX.out)).mono ?_
       clear HBT f0 f1 f2 f3 f4 f5 f6 f7 f8 f9 f10 f11
       rintro e w3 ⟨rfl, hx3⟩
       have HX3 := qh (hX.out.trans hx3)
       clear hx3
       have HB3 := qh ((Below.block (B := W1.heap.size) HX3.out w.heap.size (by have := HS1.out; omega)).trans HB0.out)
       obtain ⟨f0, f1, f2, f3, f4, f5, f6, f7, f8, f9, f10, f11⟩ := box12 HB3.out
       by_cases h8 : 8192 < BB.length
       ·have HR : Hid (R = (S, 0, 2)) := HC3.out.trans (if_pos h8)
        have h8i : (8192 : Int) < (BB.length : Int) := by omega
        clear HC3 h8 HAF HLG HAP
        have HXF := qh (HX1.out.trans (HX3.out))
        have HB1F := qh ((Below.block (B := W1.heap.size) (HX3.out) (w.heap.size + 1) (by have := HS1.out; omega)).trans HB1.out)
        generalize w3 = WF at *
        have HTH := qh (there_blk (cs := [.int .i64 0, .slice none 0 0, .slice none 0 0, .bool false, .bool false, .int .i64 0, .int .u32 0, .slice none 0 0, .bool false, .slice none 0 0, .int .u64 0, .bool false]) HB1F.out 0 12 (by simp))
        have hms := mod_setCells (fun z => z = w.heap.size + 1) WF (w.heap.size + 1) 0 [.int .i64 r.n, .slice sa sn sc, .slice wa wn wc', .bool r.armed, .bool r.down, .int .i64 r.after, .int .u32 (S.L.gen : Int), .slice la S.L.recs.length lc, .bool S.L.cl, .slice pa S.l.length pc, .int .u64 (S.num : Int), .bool false] rfl
        have HMS := qh hms
        clear hms
        go_wp2_with (first
         | ((with_reducible show wpList _ _ _ (⟨none, Op.store _ _ _, _, _, _, _⟩ :: _) _ _); refine wpList_store_mid rfl 41 _ _ rfl (w.heap.size + 1) 0 #[.int .i64 r.n, .slice sa sn sc, .slice wa wn wc', .bool r.armed, .bool r.down, .int .i64 r.after, .int .u32 (S.L.gen : Int), .slice la S.L.recs.length lc, .bool S.L.cl, .slice pa S.l.length pc, .int .u64 (S.num : Int), .bool false] (by rfl) (by rfl) HTH.out (by kernel_rfl) (by simp [Value.oneCell']) ?_)
         | fail)
        have hbs : (WF.setCells (w.heap.size + 1) 0 [.int .i64 r.n, .slice sa sn sc, .slice wa wn wc', .bool r.armed, .bool r.down, .int .i64 r.after, .int .u32 (S.L.gen : Int), .slice la S.L.recs.length lc, .bool S.L.cl, .slice pa S.l.length pc, .int .u64 (S.num : Int), .bool false]).heap[w.heap.size + 1]? = some (.cells #[.int .i64 r.n, .slice sa sn sc, .slice wa wn wc', .bool r.armed, .bool r.down, .int .i64 r.after, .int .u32 (S.L.gen : Int), .slice la S.L.recs.length lc, .bool S.L.cl, .slice pa S.l.length pc, .int .u64 (S.num : Int), .bool false] 41 (0, 0)) := by rw [blk_setCells (w.heap.size + 1) 41 [.int .i64 r.n, .slice sa sn sc, .slice wa wn wc', .bool r.armed, .bool r.down, .int .i64 r.after, .int .u32 (S.L.gen : Int), .slice la S.L.recs.length lc, .bool S.L.cl, .slice pa S.l.length pc, .int .u64 (S.num : Int), .bool false] 0 WF [.int .i64 0, .slice none 0 0, .slice none 0 0, .bool false, .bool false, .int .i64 0, .int .u32 0, .slice none 0 0, .bool false, .slice none 0 0, .int .u64 0, .bool false] HB1F.out (by simp)]; simp
        refine bodyPost_ret_by (results_s3 (c := 4) (d := 5) (f := 6) rfl _ _ (w.heap.size + 1) 41 #[.int .i64 r.n, .slice sa sn sc, .slice wa wn wc', .bool r.armed, .bool r.down, .int .i64 r.after, .int .u32 (S.L.gen : Int), .slice la S.L.recs.length lc, .bool S.L.cl, .slice pa S.l.length pc, .int .u64 (S.num : Int), .bool false] _ (by rfl) hbs (by kernel_rfl)) rfl ?_
        rw [HR.out]
        exact Commit6Out.same H.out hcl (Mod.ext HXF.out HMS.out (fun z hz => by omega)) 0 2 (by omega)
       ·have h8i : decide ((8192 : Int) < (BB.length : Int)) = false := decide_eq_false (by omega)
        have HC4 := qh (HC3.out.trans (if_neg h8))
        have h8l : BB.length <= 8192 := by omega
        have h8li : (BB.length : Int) <= 8192 := by omega
        clear HC3 h8
        go_wp2_with fail
        refine (HAP.out _ (HX1.out.trans HX3.out)).mono ?_
        clear HAP f0 f1 f2 f3 f4 f5 f6 f7 f8 f9 f10 f11
        rintro e w4 ⟨pv2, rfl, hP2, hpx2, hx4⟩
        obtain ⟨-, pb, pd, rfl, -, -⟩ := hP2.shape
        have hx5 := Ext.of_alloc w4 (.cells #[.int .i64 r.n, .slice sa sn sc, .slice wa wn wc', .bool r.armed, .bool r.down, .int .i64 r.after, .int .u32 (S.L.gen : Int), .slice la S.L.recs.length lc, .bool S.L.cl, .slice pb L2.length pd, .int .u64 (N1 : Int), .bool false] 41)
        have hb5 := heap_alloc_new w4 (.cells #[.int .i64 r.n, .slice sa sn sc, .slice wa wn wc', .bool r.armed, .bool r.down, .int .i64 r.after, .int .u32 (S.L.gen : Int), .slice la S.L.recs.length lc, .bool S.L.cl, .slice pb L2.length pd, .int .u64 (N1 : Int), .bool false] 41)
        have hs5 : (w4.alloc (.cells #[.int .i64 r.n, .slice sa sn sc, .slice wa wn wc', .bool r.armed, .bool r.down, .int .i64 r.after, .int .u32 (S.L.gen : Int), .slice la S.L.recs.length lc, .bool S.L.cl, .slice pb L2.length pd, .int .u64 (N1 : Int), .bool false] 41)).heap.size = w4.heap.size + 1 := World.size_alloc _ _
        obtain ⟨w5, hw5⟩ : ∃ w5, w5 = w4.alloc (.cells #[.int .i64 r.n, .slice sa sn sc, .slice wa wn wc', .bool r.armed, .bool r.down, .int .i64 r.after, .int .u32 (S.L.gen : Int), .slice la S.L.recs.length lc, .bool S.L.cl, .slice pb L2.length pd, .int .u64 (N1 : Int), .bool false] 41) := ⟨_, rfl⟩
        rw [<- hw5] at hx5 hb5 hs5
        have HW5 := qh hw5
        have HX5 := qh (HX3.out.trans (hx4.trans hx5))
        have HB5 := qh hb5
        have HP5 := qh (hP2.ext hx5)
        have HB05 := qh ((Below.block (B := W1.heap.size) HX5.out w.heap.size (by have := HS1.out; omega)).trans HB0.out)
        have HLO : Hid (w.heap.size + 2 <= w4.heap.size) := by have := HX3.out.size; have := hx4.size; have := HS1.out; unfold Hid; omega
        have HPX : Hid (∀ k, (Value.slice pb L2.length pd).ownBlock = some k -> (k < w.heap.size /\ X k ∨ w.heap.size + 2 <= k) /\ k < w4.heap.size) := fun k hk => by
         refine ⟨(hpx2 k hk).1.imp (fun h1 => ⟨H.out.pL k h1, H.out.pX k h1⟩) (fun h1 => ?_), (hpx2 k hk).2⟩
         have := HX3.out.size
         have := HS1.out
         omega
        have HS5 := qh hs5
        clear hP2 hpx2 hx4 hx5 hb5 hs5 hw5
        go_upto_region 19 with fail
        rw [show w4.alloc (.cells #[.int .i64 r.n, .slice sa sn sc, .slice wa wn wc', .bool r.armed, .bool r.down, .int .i64 r.after, .int .u32 (S.L.gen : Int), .slice la S.L.recs.length lc, .bool S.L.cl, .slice pb L2.length pd, .int .u64 (N1 : Int), .bool false] 41) = w5 from HW5.out.symm]
        clear HW5
        generalize w4.heap.size = b at *
        have hrn := H.out.log.rel.n
        have hn1 := HOK.out.n1
        have hn2 := HOK.out.n2
        have hal := W5.area_le S.L.d hn2
        have hae := W5.area_eq S.L.d
        have HAR := qh (fun v => refArea_any S.L.d.n v (by omega) (by omega))
        rw [hae, hrn] at HAR
        have hasz : S6.areaS S = W5.area S.L.d := rfl
        rw [hasz] at HC4 HLG
        generalize hA : W5.area S.L.d = A at *
        have HA := qh hA
        have hai : (A : Int) <= 2047 := by omega
        clear hA hasz hae
        have himg := fun (W : World) (hW : Ext w5 W) => refImage W (gL r (.slice sa sn sc) (.slice wa wn wc') S.L.gen (.slice la S.L.recs.length lc) S.L.cl) (.slice pb L2.length pd) N1 false L2 (HP5.out.ext hW) (by omega) (by omega) (fun p hp => by have q := HFA.out.pk p hp; exact ⟨by have := q.key; omega, by have := q.val; omega, by have := q.ver; omega⟩)
        have HIM := qh himg
        have huim : W5.used (S6.image L2 N1) = S6.needsL L2 := S6.used_image (by unfold S6.lastN; omega)
        have himl : ∀ b ∈ S6.image L2 N1, b.length <= 8192 := S6.image_len HFA.out.pk (by unfold S6.lastN; omega)
        have himn : (S6.image L2 N1).length <= 70000 := by unfold S6.image; rw [List.length_cons, List.length_map]; omega
        generalize hIG : S6.image L2 N1 = IG at *
        have HIL := qh himl
        have hus := fun (W : World) (v : Value) (hv : Reads W v (IG.map strV)) => refUsed v IG A W hv (fun b hb => Nat.le_trans (HIL.out b hb) (by decide)) (by omega)
        have HUS := qh hus
        rw [<- huim] at HC4
        generalize W5.lim IG A = LM at *
        clear himg huim himl hus hIG
        unfold gL s6v strs at HIM
        simp only at HIM
        obtain ⟨f0, f1, f2, f3, f4, f5, f6, f7, f8, f9, f10, f11⟩ := box12 HB05.out
        obtain ⟨g0, g1, g2, g3, g4, g5, g6, g7, g8, g9, g10, g11⟩ := box12 HB5.out
        go_wp2_with fail
        refine (HAR.out _).mono ?_
        rintro e wx ⟨rfl, rfl⟩
        clear HAR
        go_wp2_with fail
        refine (HIM.out _ (Ext.refl _)).mono ?_
        rintro e w6 ⟨iv, rfl, hown6, hx6⟩
        obtain ⟨ia, ic, rfl⟩ := str_shape (Reads.of_own hown6 (str_one _))
        have hrd6 := Reads.of_own hown6 (str_one _)
        have HU6 := qh (HUS.out _ _ hrd6)
        have HX6 := qh hx6
        clear hown6 hx6 hrd6 HUS
        clear f0 f1 f2 f3 f4 f5 f6 f7 f8 f9 f10 f11
        clear g0 g1 g2 g3 g4 g5 g6 g7 g8 g9 g10 g11
        go_wp2_with fail
        refine HU6.out.mono ?_
        clear HU6
        rintro e wx ⟨rfl, hue, rfl⟩
        obtain ⟨hu1, hu2, hu3⟩ := hue
        have HB06 := qh ((Below.block (B := w5.heap.size) HX6.out w.heap.size (by have := HS5.out; have := HLO.out; omega)).trans HB05.out)
        have HB6 := qh ((Below.block (B := w5.heap.size) HX6.out b (by have := HS5.out; omega)).trans HB5.out)
        obtain ⟨f0, f1, f2, f3, f4, f5, f6, f7, f8, f9, f10, f11⟩ := box12 HB06.out
        by_cases hfu : A < W5.used IG
        ·have HR : Hid (R = (S, 0, 6)) := HC4.out.trans (if_pos hfu)
         have hfi := hu2 hfu
         have hfi2 : (A : Int) < (LM : Int) := by omega
         clear HC4 hfu hu1 hu2 HAF HLG HIM
         have HXF := qh (HX1.out.trans (HX5.out.trans HX6.out))
         have HB1F := qh ((Below.block (B := W1.heap.size) (HX5.out.trans HX6.out) (w.heap.size + 1) (by have := HS1.out; omega)).trans HB1.out)
         generalize w6 = WF at *
         have HTH := qh (there_blk (cs := [.int .i64 0, .slice none 0 0, .slice none 0 0, .bool false, .bool false, .int .i64 0, .int .u32 0, .slice none 0 0, .bool false, .slice none 0 0, .int .u64 0, .bool false]) HB1F.out 0 12 (by simp))
         have hms := mod_setCells (fun z => z = w.heap.size + 1) WF (w.heap.size + 1) 0 [.int .i64 r.n, .slice sa sn sc, .slice wa wn wc', .bool r.armed, .bool r.down, .int .i64 r.after, .int .u32 (S.L.gen : Int), .slice la S.L.recs.length lc, .bool S.L.cl, .slice pa S.l.length pc, .int .u64 (S.num : Int), .bool false] rfl
         have HMS := qh hms
         clear hms
         go_wp2_with (first
          | ((with_reducible show wpList _ _ _ (⟨none, Op.store _ _ _, _, _, _, _⟩ :: _) _ _); refine wpList_store_mid rfl 41 _ _ rfl (w.heap.size + 1) 0 #[.int .i64 r.n, .slice sa sn sc, .slice wa wn wc', .bool r.armed, .bool r.down, .int .i64 r.after, .int .u32 (S.L.gen : Int), .slice la S.L.recs.length lc, .bool S.L.cl, .slice pa S.l.length pc, .int .u64 (S.num : Int), .bool false] (by rfl) (by rfl) HTH.out (by kernel_rfl) (by simp [Value.oneCell']) ?_)
          | fail)
         have hbs : (WF.setCells (w.heap.size + 1) 0 [.int .i64 r.n, .slice sa sn sc, .slice wa wn wc', .bool r.armed, .bool r.down, .int .i64 r.after, .int .u32 (S.L.gen : Int), .slice la S.L.recs.length lc, .bool S.L.cl, .slice pa S.l.length pc, .int .u64 (S.num : Int), .bool false]).heap[w.heap.size + 1]? = some (.cells #[.int .i64 r.n, .slice sa sn sc, .slice wa wn wc', .bool r.armed, .bool r.down, .int .i64 r.after, .int .u32 (S.L.gen : Int), .slice la S.L.recs.length lc, .bool S.L.cl, .slice pa S.l.length pc, .int .u64 (S.num : Int), .bool false] 41 (0, 0)) := by rw [blk_setCells (w.heap.size + 1) 41 [.int .i64 r.n, .slice sa sn sc, .slice wa wn wc', .bool r.armed, .bool r.down, .int .i64 r.after, .int .u32 (S.L.gen : Int), .slice la S.L.recs.length lc, .bool S.L.cl, .slice pa S.l.length pc, .int .u64 (S.num : Int), .bool false] 0 WF [.int .i64 0, .slice none 0 0, .slice none 0 0, .bool false, .bool false, .int .i64 0, .int .u32 0, .slice none 0 0, .bool false, .slice none 0 0, .int .u64 0, .bool false] HB1F.out (by simp)]; simp
         refine bodyPost_ret_by (results_s3 (c := 4) (d := 5) (f := 6) rfl _ _ (w.heap.size + 1) 41 #[.int .i64 r.n, .slice sa sn sc, .slice wa wn wc', .bool r.armed, .bool r.down, .int .i64 r.after, .int .u32 (S.L.gen : Int), .slice la S.L.recs.length lc, .bool S.L.cl, .slice pa S.l.length pc, .int .u64 (S.num : Int), .bool false] _ (by rfl) hbs (by kernel_rfl)) rfl ?_
         rw [HR.out]
         exact Commit6Out.same H.out hcl (Mod.ext HXF.out HMS.out (fun z hz => by omega)) 0 6 (by omega)
        ·have HC5 := qh (HC4.out.trans (if_neg hfu))
         have hfi := hu1 (by omega)
         have hfi2 : decide (A < LM) = false := decide_eq_false (by omega)
         have hfi3 : ¬ A < LM := by omega
         clear HC4 hu1 hu2 hu3
         have hnr := fun w => refNeed_any (BB.length : Int) w (by omega) (by omega)
         rw [W5.need_nat] at hnr
         have HNR := qh hnr
         have hnd := need_17 BB.length h8l
         clear hnr
         generalize hND : W5.need BB.length = N at *
         clear hND
         obtain ⟨hlf, hll8, hg32, -, -⟩ := HI.out.log HOK.out hcl
         rw [HA.out] at hlf
         have hgood : W5.Good S.L := ⟨hn1, hn2, by rw [HA.out]; exact hlf, hll8, hg32⟩
         have HGD := qh hgood
         obtain ⟨M, hM⟩ : ∃ M : Nat, A = W5.used S.L.recs + M := ⟨A - W5.used S.L.recs, by omega⟩
         have HRM := qh (fun (v : World) (hv : Ext w v) => refRoom S.L r (.slice sa sn sc) (.slice wa wn wc') (.slice la S.L.recs.length lc) ⟨_, _, _, rfl⟩ ⟨_, _, _, rfl⟩ hrn hgood v (Reads.of_own (hv.keptOwn H.out.log.row) (str_one _)))
         rw [HA.out, show (A : Int) - (W5.used S.L.recs : Int) = (M : Int) by omega] at HRM
         generalize W5.used S.L.recs = U at *
         have hMi : (M : Int) <= 2047 := by omega
         have hNi : (N : Int) <= 17 := by omega
         unfold lgv at HRM
         have HX06 := qh (HX1.out.trans (HX5.out.trans HX6.out))
         have HRMv := qh (fun (v : World) (hv : Ext w6 v) => HRM.out v (HX06.out.trans hv))
         have HCS := qh (fun (v : World) (hv : Ext w6 v) => box12_nine ((Below.block (B := w6.heap.size) hv w.heap.size (blk_lt HB06.out)).trans HB06.out))
         have hx0 := Ext.of_drew w6
         clear hfi hfu hgood HRM hlf hll8 hg32
         have HM := qh hM
         clear hM
         obtain ⟨dcs, hdcs⟩ : ∃ dcs : Bool, decide (N <= M) = dcs := ⟨_, rfl⟩
         have HDC := qh hdcs
         clear f9 f10 f11
         go_wp2_with fail
         go_region_held3 (fun v => v.cell? ⟨w.heap.size, 0, none⟩ = some (.int .i64 r.n) /\ v.cell? ⟨w.heap.size, 1, none⟩ = some (.slice sa sn sc) /\ v.cell? ⟨w.heap.size, 2, none⟩ = some (.slice wa wn wc') /\ v.cell? ⟨w.heap.size, 3, none⟩ = some (.bool r.armed) /\ v.cell? ⟨w.heap.size, 4, none⟩ = some (.bool r.down) /\ v.cell? ⟨w.heap.size, 5, none⟩ = some (.int .i64 r.after) /\ v.cell? ⟨w.heap.size, 6, none⟩ = some (.int .u32 (S.L.gen : Int)) /\ v.cell? ⟨w.heap.size, 7, none⟩ = some (.slice la S.L.recs.length lc) /\ v.cell? ⟨w.heap.size, 8, none⟩ = some (.bool S.L.cl)) (first | (have q := HCS.out _ hx0; exact ⟨q.1, q.2.1, q.2.2.1, q.2.2.2.1, q.2.2.2.2.1, q.2.2.2.2.2.1, q.2.2.2.2.2.2.1, q.2.2.2.2.2.2.2.1, q.2.2.2.2.2.2.2.2⟩) | (have q := HCS.out _ (hx0.trans hxq); exact ⟨q.1, q.2.1, q.2.2.1, q.2.2.2.1, q.2.2.2.2.1, q.2.2.2.2.2.1, q.2.2.2.2.2.2.1, q.2.2.2.2.2.2.2.1, q.2.2.2.2.2.2.2.2⟩)) (first
          | (go_at_call 40; refine (HNR.out _).mono ?_; rintro e wy ⟨rfl, rfl⟩)
          | (go_at_call 41; refine (HRMv.out _ hx0).mono ?_; rintro e wq ⟨rfl, hxq⟩))
         have HXQ := qh (hx0.trans hxq)
         clear hx0 hxq hdcs HNR HRMv HCS
         clear f0 f1 f2 f3 f4 f5 f6 f7 f8
         go_upto_if 77 with fail
         go_cut [12] (fun s12 wx => Hid (∃ L3 r2 sv2 wv2 lv2 c3, s12 = .int .i64 c3 /\ (L3, c3) = S6.logs S ws /\ K6 w wx X b #[.int .i64 r.n, .slice sa sn sc, .slice wa wn wc', .bool r.armed, .bool r.down, .int .i64 r.after, .int .u32 (S.L.gen : Int), .slice la S.L.recs.length lc, .bool S.L.cl, .slice pa S.l.length pc, .int .u64 (S.num : Int), .bool false] L3 r2 sv2 wv2 lv2 (.slice pb L2.length pd) L2 N1 B))
         case first =>
          cases dcs with
          | true =>
           have hNM : N <= M := of_decide_eq_true HDC.out
           have hlg := HLG.out.trans (if_pos (by have := HM.out; omega))
           have HLG2 := qh hlg
           have HBq := qh ((Below.block (B := w6.heap.size) HXQ.out w.heap.size (blk_lt HB06.out)).trans HB06.out)
           have hap := refAppend S.L r X (.slice sa sn sc) (.slice wa wn wc') (.slice la S.L.recs.length lc) BB wq (H.out.log.ext (HX06.out.trans HXQ.out)) HGD.out (by omega) (by omega)
           unfold lgv LogOut at hap
           generalize W5.append S.L BB = RL at *
           obtain ⟨L3, c3⟩ := RL
           have HAP := qh hap
           have HBb := qh ((Below.block (B := w6.heap.size) HXQ.out b (blk_lt HB6.out)).trans HB6.out)
           clear hap hlg HLG HIM hNM
           obtain ⟨f0, f1, f2, f3, f4, f5, f6, f7, f8, f9, f10, f11⟩ := box12 HBq.out
           go_wp2_with fail
           refine HAP.out.mono ?_
           clear HAP f0 f1 f2 f3 f4 f5 f6 f7 f8 f9 f10 f11
           rintro e w7 ⟨r2, sv2, wv2, lv2, rfl, hL7, hl7, hx7⟩
           unfold lgv
           obtain ⟨sa2, sn2, sc2, hsv⟩ := hL7.at_.safe.any
           obtain ⟨wa2, wn2, wc2, hwv⟩ := hL7.at_.wait.any
           subst hsv
           subst hwv
           obtain ⟨la2, lc2, hlv⟩ := str_shape (Reads.of_own hL7.row (str_one _))
           subst hlv
           have hbb7 := (Below.block (B := wq.heap.size) hx7 b (blk_lt HBb.out)).trans HBb.out
           have HTH := qh (there_blk (cs := [.int .i64 r.n, .slice sa sn sc, .slice wa wn wc', .bool r.armed, .bool r.down, .int .i64 r.after, .int .u32 (S.L.gen : Int), .slice la S.L.recs.length lc, .bool S.L.cl, .slice pb L2.length pd, .int .u64 (N1 : Int), .bool false]) hbb7 0 9 (by simp))
           have HX7 := qh hx7
           have HL7 := qh hL7
           clear hbb7 hx7 hL7
           go_wp2_with (first
            | ((with_reducible show wpList _ _ _ (⟨none, Op.store _ _ _, _, _, _, _⟩ :: _) _ _); refine wpList_store_mid rfl 37 _ _ rfl b 0 #[.int .i64 r2.n, .slice sa2 sn2 sc2, .slice wa2 wn2 wc2, .bool r2.armed, .bool r2.down, .int .i64 r2.after, .int .u32 (L3.gen : Int), .slice la2 L3.recs.length lc2, .bool L3.cl] (by rfl) (by rfl) HTH.out (by kernel_rfl) (by simp [Value.oneCell']) ?_)
            | fail)
           go_meet
           exact ⟨L3, r2, _, _, _, c3, rfl, HLG2.out.symm, K6.make (HX06.out.trans (HXQ.out)) (by have := HLO.out; omega) ((Below.block (B := w6.heap.size) (HXQ.out) w.heap.size (blk_lt HB06.out)).trans HB06.out) ((Below.block (B := W1.heap.size) (HX5.out.trans (HX6.out.trans (HXQ.out))) (w.heap.size + 1) (by have := HS1.out; omega)).trans HB1.out) ((Below.block (B := w6.heap.size) (HXQ.out) b (blk_lt HB6.out)).trans HB6.out) (HP5.out.ext (HX6.out.trans (HXQ.out))) (fun k hk => by have q := HPX.out k hk; have := HX1.out.size; have := HS1.out; have := HS5.out; have := HX6.out.size; have := (HXQ.out).size; refine ⟨?_, by omega, by omega, by omega, by omega⟩; rcases q.1 with q1 | q1; exact .inl q1.2; exact .inr ⟨by omega, by omega⟩) HX7.out HL7.out rfl (by omega)⟩
          | false =>
           have hNM : ¬ N <= M := of_decide_eq_false HDC.out
           have hlg := HLG.out.trans (if_neg (by have := HM.out; omega))
           have HLG2 := qh hlg
           have HBq := qh ((Below.block (B := w6.heap.size) HXQ.out w.heap.size (blk_lt HB06.out)).trans HB06.out)
           have HBb := qh ((Below.block (B := w6.heap.size) HXQ.out b (blk_lt HB6.out)).trans HB6.out)
           have hrn := fun (v : World) (hv : Ext wq v) (nv : Value) (hnv : Reads v nv (IG.map strV)) => refRenew S.L r X (.slice sa sn sc) (.slice wa wn wc') (.slice la S.L.recs.length lc) nv IG v (H.out.log.ext (HX06.out.trans (HXQ.out.trans hv))) hn1 hn2 HGD.out.gen (by omega) hnv (by omega) (fun b hb => Nat.le_trans (HIL.out b hb) (by decide))
           unfold lgv LogOut at hrn
           generalize W5.renew S.L IG = RL at *
           obtain ⟨L3, c3⟩ := RL
           have HRN := qh hrn
           clear hrn hlg HLG hNM
           obtain ⟨f0, f1, f2, f3, f4, f5, f6, f7, f8, f9, f10, f11⟩ := box12 HBq.out
           obtain ⟨g0, g1, g2, g3, g4, g5, g6, g7, g8, g9, g10, g11⟩ := box12 HBb.out
           go_upto_region 25 with fail
           have hHeld := Ext.of_drew wq
           refine wp_region_C (fun v => Ext wq v) 4 (by kernel_rfl) ?_
           (refine aC [1, 4] (i := 0) (oi := ⟨some 87, _, _, _, _, _⟩) (v := ?_) rfl ?_ hHeld ?_; rotate_left; (focus (intro w hSw; (skip); go_simp; first | done | with_reducible rfl)); try simp only [Act.put, zB, zC, zD])
           (refine aC [4] (i := 1) (oi := ⟨some 88, _, _, _, _, _⟩) (v := ?_) rfl ?_ hHeld ?_; rotate_left; (focus (intro w hSw; ((obtain ⟨z0, z1, z2, z3, z4, z5, z6, z7, z8⟩ := box12_nine ((Below.block (B := wq.heap.size) hSw _ (blk_lt HBq.out)).trans HBq.out))); go_simp; first | done | with_reducible rfl)); try simp only [Act.put, zB, zC, zD])
           (refine aC [3, 4] (i := 2) (oi := ⟨some 89, _, _, _, _, _⟩) (v := ?_) rfl ?_ hHeld ?_; rotate_left; (focus (intro w hSw; ((obtain ⟨z0, z1, z2, z3, z4, z5, z6, z7, z8, z9, z10, z11⟩ := box12 ((Below.block (B := wq.heap.size) hSw _ (blk_lt HBb.out)).trans HBb.out))); go_simp; first | done | with_reducible rfl)); try simp only [Act.put, zB, zC, zD])
           refine wpAnyC_one (i := 3) (oi := ⟨some 90, _, _, _, _, _⟩) rfl (by kernel_rfl) (by decide) (fun K hK => ?_)
           rw [if_pos (by rfl)]
           go_simp
           refine (HIM.out _ (HX6.out.trans (HXQ.out.trans hHeld))).mono ?_
           rintro e wv ⟨iv2, rfl, hown, hxv⟩
           obtain ⟨ia2, ic2, rfl⟩ := str_shape (Reads.of_own hown (str_one _))
           have hrd := Reads.of_own hown (str_one _)
           clear hown
           have hH2 := hHeld.trans hxv
           clear hHeld
           have hHeld := hH2
           clear hH2
           refine hK.out _ _ hHeld ?_
           clear hK K
           try simp only [Act.put, zB, zC, zD]
           refine wpAnyC_c (oi := ⟨some 91, _, _, _, _, _⟩) rfl (by kernel_rfl) (fun K hK => ?_)
           rw [if_pos (by rfl)]
           go_simp
           refine (HRN.out _ hHeld _ hrd).mono ?_
           clear HRN HIM hrd
           rintro e w7 ⟨r2, sv2, wv2, lv2, rfl, hL7, hl7, hx7⟩
           unfold lgv
           obtain ⟨sa2, sn2, sc2, hsv⟩ := hL7.at_.safe.any
           obtain ⟨wa2, wn2, wc2, hwv⟩ := hL7.at_.wait.any
           subst hsv
           subst hwv
           obtain ⟨la2, lc2, hlv⟩ := str_shape (Reads.of_own hL7.row (str_one _))
           subst hlv
           refine hK.out _ _ ?_
           clear hK K
           try simp only [Act.put, zB, zC, zD]
           have hbbv := (Below.block (B := wq.heap.size) hHeld b (blk_lt HBb.out)).trans HBb.out
           have hbb7 := (Below.block (B := wv.heap.size) hx7 b (blk_lt hbbv)).trans hbbv
           (refine aT (i := 5) (oi := ⟨some 86, _, _, _, _, _⟩) (v := ?_) rfl ?_ ?_; rotate_left; (focus (intro w; go_simp; first | done | with_reducible rfl)); try simp only [Act.put, zB, zC, zD])
           (refine aT (i := 6) (oi := ⟨some 92, _, _, _, _, _⟩) (v := ?_) rfl ?_ ?_; rotate_left; (focus (intro w; go_simp; first | done | with_reducible rfl)); try simp only [Act.put, zB, zC, zD])
           (refine aT (i := 7) (oi := ⟨some 93, _, _, _, _, _⟩) (v := ?_) rfl ?_ ?_; rotate_left; (focus (intro w; go_simp; first | done | with_reducible rfl)); try simp only [Act.put, zB, zC, zD])
           (refine aT (i := 8) (oi := ⟨some 94, _, _, _, _, _⟩) (v := ?_) rfl ?_ ?_; rotate_left; (focus (intro w; go_simp; first | done | with_reducible rfl)); try simp only [Act.put, zB, zC, zD])
           refine wpAny_one (i := 9) (oi := ⟨none, _, _, _, _, _⟩) rfl (by kernel_rfl) (fun K hK => ?_)
           rw [if_pos (by rfl)]
           refine wp_store_mid 37 _ _ rfl b 0 #[.int .i64 r2.n, .slice sa2 sn2 sc2, .slice wa2 wn2 wc2, .bool r2.armed, .bool r2.down, .int .i64 r2.after, .int .u32 (L3.gen : Int), .slice la2 L3.recs.length lc2, .bool L3.cl] rfl rfl (there_blk (cs := [.int .i64 r.n, .slice sa sn sc, .slice wa wn wc', .bool r.armed, .bool r.down, .int .i64 r.after, .int .u32 (S.L.gen : Int), .slice la S.L.recs.length lc, .bool S.L.cl, .slice pb L2.length pd, .int .u64 (N1 : Int), .bool false]) hbb7 0 9 (by simp)) (by kernel_rfl) (by simp [Value.oneCell']) ?_
           refine hK.out _ _ ?_
           clear hK K
           try simp only [Act.put, zB, zC, zD]
           (refine aT (i := 10) (oi := ⟨some 12, _, _, _, _, _⟩) (v := ?_) rfl ?_ ?_; rotate_left; (focus (intro w; go_simp; first | done | with_reducible rfl)); try simp only [Act.put, zB, zC, zD])
           refine wpAny_done (by kernel_rfl) ?_ _
           go_wp2_with fail
           go_meet
           exact ⟨L3, r2, _, _, _, c3, rfl, HLG2.out.symm, K6.make (HX06.out.trans (HXQ.out.trans hHeld)) (by have := HLO.out; omega) ((Below.block (B := w6.heap.size) (HXQ.out.trans hHeld) w.heap.size (blk_lt HB06.out)).trans HB06.out) ((Below.block (B := W1.heap.size) (HX5.out.trans (HX6.out.trans (HXQ.out.trans hHeld))) (w.heap.size + 1) (by have := HS1.out; omega)).trans HB1.out) ((Below.block (B := w6.heap.size) (HXQ.out.trans hHeld) b (blk_lt HB6.out)).trans HB6.out) (HP5.out.ext (HX6.out.trans (HXQ.out.trans hHeld))) (fun k hk => by have q := HPX.out k hk; have := HX1.out.size; have := HS1.out; have := HS5.out; have := HX6.out.size; have := (HXQ.out.trans hHeld).size; refine ⟨?_, by omega, by omega, by omega, by omega⟩; rcases q.1 with q1 | q1; exact .inl q1.2; exact .inr ⟨by omega, by omega⟩) hx7 hL7 rfl (by omega)⟩
         case rest =>
          obtain ⟨L3, r2, sv2, wv2, lv2, c3, rfl, hlg, hK6⟩ := hcut.out
          clear hcut
          obtain ⟨sa2, sn2, sc2, hsv⟩ := hK6.log.at_.safe.any
          obtain ⟨wa2, wn2, wc2, hwv⟩ := hK6.log.at_.wait.any
          subst hsv
          subst hwv
          obtain ⟨la2, lc2, hlv⟩ := str_shape (Reads.of_own hK6.log.row (str_one _))
          subst hlv
          have HK := qh hK6
          have hce := HC5.out.trans HAF.out
          rw [<- hlg] at hce
          have HCE := qh hce
          clear hK6 hlg hce HC5 HAF
          by_cases hc3 : c3 = 0
          ·subst hc3
           have HR := qh (HCE.out.trans (if_pos rfl))
           clear HCE
           have HXF := qh (show Ext w wc.drew from (HK.out.ext).trans (Ext.of_drew wc))
           have HB1F := qh (show wc.drew.heap[w.heap.size + 1]? = some (.cells #[.int .i64 0, .slice none 0 0, .slice none 0 0, .bool false, .bool false, .int .i64 0, .int .u32 0, .slice none 0 0, .bool false, .slice none 0 0, .int .u64 0, .bool false] 41 (0, 0)) from HK.out.box1)
           have HDW := qh (Ext.of_drew wc)
           have hHeld : wc.drew.heap[b]? = some (.cells #[.int .i64 r2.n, .slice sa2 sn2 sc2, .slice wa2 wn2 wc2, .bool r2.armed, .bool r2.down, .int .i64 r2.after, .int .u32 (L3.gen : Int), .slice la2 L3.recs.length lc2, .bool L3.cl, .slice pb L2.length pd, .int .u64 (N1 : Int), .bool false] 41 (0, 0)) := HK.out.box
           go_upto_region 30 with fail
           refine wp_region_C (fun v => v.heap[b]? = some (.cells #[.int .i64 r2.n, .slice sa2 sn2 sc2, .slice wa2 wn2 wc2, .bool r2.armed, .bool r2.down, .int .i64 r2.after, .int .u32 (L3.gen : Int), .slice la2 L3.recs.length lc2, .bool L3.cl, .slice pb L2.length pd, .int .u64 (N1 : Int), .bool false] 41 (0, 0))) 5 (by kernel_rfl) ?_
           generalize wc.drew = WF at *
           have HTH := qh (there_blk (cs := [.int .i64 0, .slice none 0 0, .slice none 0 0, .bool false, .bool false, .int .i64 0, .int .u32 0, .slice none 0 0, .bool false, .slice none 0 0, .int .u64 0, .bool false]) HB1F.out 0 12 (by simp))
           have hms := mod_setCells (fun z => z = w.heap.size + 1) WF (w.heap.size + 1) 0 [.int .i64 r2.n, .slice sa2 sn2 sc2, .slice wa2 wn2 wc2, .bool r2.armed, .bool r2.down, .int .i64 r2.after, .int .u32 (L3.gen : Int), .slice la2 L3.recs.length lc2, .bool L3.cl, .slice pb L2.length pd, .int .u64 (N1 : Int), .bool false] rfl
           have HMS := qh hms
           clear hms
           (refine aC [5] (i := 0) (oi := ⟨some 105, _, _, _, _, _⟩) (v := ?_) rfl ?_ hHeld ?_; rotate_left; (focus (intro w hSw; ((obtain ⟨z0, z1, z2, z3, z4, z5, z6, z7, z8, z9, z10, z11⟩ := box12 hSw)); go_simp; first | done | with_reducible rfl)); try simp only [Act.put, zB, zC, zD])
           (refine aC [5] (i := 1) (oi := ⟨some 106, _, _, _, _, _⟩) (v := ?_) rfl ?_ hHeld ?_; rotate_left; (focus (intro w hSw; (skip); go_simp; first | done | with_reducible rfl)); try simp only [Act.put, zB, zC, zD])
           (refine aC [5] (i := 2) (oi := ⟨some 107, _, _, _, _, _⟩) (v := ?_) rfl ?_ hHeld ?_; rotate_left; (focus (intro w hSw; ((obtain ⟨z0, z1, z2, z3, z4, z5, z6, z7, z8, z9, z10, z11⟩ := box12 hSw)); go_simp; first | done | with_reducible rfl)); try simp only [Act.put, zB, zC, zD])
           refine wpAnyC_one (i := 3) (oi := ⟨none, _, _, _, _, _⟩) rfl (by kernel_rfl) (by decide) (fun K hK => ?_)
           rw [if_pos (by rfl)]
           refine wp_store_mid 41 _ _ rfl (w.heap.size + 1) 0 #[.int .i64 r2.n, .slice sa2 sn2 sc2, .slice wa2 wn2 wc2, .bool r2.armed, .bool r2.down, .int .i64 r2.after, .int .u32 (L3.gen : Int), .slice la2 L3.recs.length lc2, .bool L3.cl, .slice pb L2.length pd, .int .u64 (N1 : Int), .bool false] rfl rfl HTH.out (by kernel_rfl) (by simp [Value.oneCell']) ?_
           have hH2 := blk_mod hHeld HMS.out (by first | omega | (have := HK.out.lo; omega))
           clear hHeld
           have hHeld := hH2
           clear hH2
           refine hK.out _ _ hHeld ?_
           clear hK K
           try simp only [Act.put, zB, zC, zD]
           (refine aC [5] (i := 4) (oi := ⟨some 5, _, _, _, _, _⟩) (v := ?_) rfl ?_ hHeld ?_; rotate_left; (focus (intro w hSw; (skip); go_simp; first | done | with_reducible rfl)); try simp only [Act.put, zB, zC, zD])
           refine wpAnyC_c (oi := ⟨some 6, _, _, _, _, _⟩) rfl (by kernel_rfl) (fun K hK => ?_)
           rw [if_pos (by rfl)]
           go_simp
           refine hK.out _ _ ?_
           clear hK K
           try simp only [Act.put, zB, zC, zD]
           refine wpAny_done (by kernel_rfl) ?_ _
           go_wp2_with fail
           have hbs : (WF.setCells (w.heap.size + 1) 0 [.int .i64 r2.n, .slice sa2 sn2 sc2, .slice wa2 wn2 wc2, .bool r2.armed, .bool r2.down, .int .i64 r2.after, .int .u32 (L3.gen : Int), .slice la2 L3.recs.length lc2, .bool L3.cl, .slice pb L2.length pd, .int .u64 (N1 : Int), .bool false]).heap[w.heap.size + 1]? = some (.cells #[.int .i64 r2.n, .slice sa2 sn2 sc2, .slice wa2 wn2 wc2, .bool r2.armed, .bool r2.down, .int .i64 r2.after, .int .u32 (L3.gen : Int), .slice la2 L3.recs.length lc2, .bool L3.cl, .slice pb L2.length pd, .int .u64 (N1 : Int), .bool false] 41 (0, 0)) := by rw [blk_setCells (w.heap.size + 1) 41 [.int .i64 r2.n, .slice sa2 sn2 sc2, .slice wa2 wn2 wc2, .bool r2.armed, .bool r2.down, .int .i64 r2.after, .int .u32 (L3.gen : Int), .slice la2 L3.recs.length lc2, .bool L3.cl, .slice pb L2.length pd, .int .u64 (N1 : Int), .bool false] 0 WF [.int .i64 0, .slice none 0 0, .slice none 0 0, .bool false, .bool false, .int .i64 0, .int .u32 0, .slice none 0 0, .bool false, .slice none 0 0, .int .u64 0, .bool false] HB1F.out (by simp)]; simp
           refine bodyPost_ret_by (results_s3 (c := 4) (d := 5) (f := 6) rfl _ _ (w.heap.size + 1) 41 #[.int .i64 r2.n, .slice sa2 sn2 sc2, .slice wa2 wn2 wc2, .bool r2.armed, .bool r2.down, .int .i64 r2.after, .int .u32 (L3.gen : Int), .slice la2 L3.recs.length lc2, .bool L3.cl, .slice pb L2.length pd, .int .u64 (N1 : Int), .bool false] _ (by rfl) hbs (by kernel_rfl)) rfl ?_
           rw [HR.out]
           exact HK.out.done ((Mod.of_ext HDW.out).trans HMS.out (fun _ _ h => h))
          ·have hc3b : (c3 != 0) = true := by rw [bne_iff_ne]; exact hc3
           have HCE2 := qh (HCE.out.trans (if_neg hc3))
           clear HCE hc3
           obtain ⟨d3, hd3⟩ : ∃ d3 : Bool, d3 = decide (c3 = 3) := ⟨_, rfl⟩
           have HD3 := qh hd3
           have hd3b : (c3 == 3) = d3 := by rw [hd3]; exact (Bool.eq_iff_iff.2 (by simp))
           have hd3c : decide (c3 = 3) = d3 := hd3.symm
           simp only at HCE2
           have HR : Hid (R = (⟨L3, S.l, S.num, d3⟩, 0, c3)) := by rw [hd3]; exact HCE2.out
           clear HCE2 hd3
           obtain ⟨g0, g1, g2, g3, g4, g5, g6, g7, g8, g9, g10, g11⟩ := box12 HK.out.box
           have HTH0 := qh (there_blk (cs := [.int .i64 r.n, .slice sa sn sc, .slice wa wn wc', .bool r.armed, .bool r.down, .int .i64 r.after, .int .u32 (S.L.gen : Int), .slice la S.L.recs.length lc, .bool S.L.cl, .slice pa S.l.length pc, .int .u64 (S.num : Int), .bool false]) HK.out.box0 0 9 (by simp))
           have hma := mod_setCells (fun z => z = w.heap.size) wc w.heap.size 0 [.int .i64 r2.n, .slice sa2 sn2 sc2, .slice wa2 wn2 wc2, .bool r2.armed, .bool r2.down, .int .i64 r2.after, .int .u32 (L3.gen : Int), .slice la2 L3.recs.length lc2, .bool L3.cl] rfl
           have hba : (wc.setCells w.heap.size 0 [.int .i64 r2.n, .slice sa2 sn2 sc2, .slice wa2 wn2 wc2, .bool r2.armed, .bool r2.down, .int .i64 r2.after, .int .u32 (L3.gen : Int), .slice la2 L3.recs.length lc2, .bool L3.cl]).heap[w.heap.size]? = some (.cells #[.int .i64 r2.n, .slice sa2 sn2 sc2, .slice wa2 wn2 wc2, .bool r2.armed, .bool r2.down, .int .i64 r2.after, .int .u32 (L3.gen : Int), .slice la2 L3.recs.length lc2, .bool L3.cl, .slice pa S.l.length pc, .int .u64 (S.num : Int), .bool false] 41 (0, 0)) := by rw [blk_setCells w.heap.size 41 [.int .i64 r2.n, .slice sa2 sn2 sc2, .slice wa2 wn2 wc2, .bool r2.armed, .bool r2.down, .int .i64 r2.after, .int .u32 (L3.gen : Int), .slice la2 L3.recs.length lc2, .bool L3.cl] 0 wc [.int .i64 r.n, .slice sa sn sc, .slice wa wn wc', .bool r.armed, .bool r.down, .int .i64 r.after, .int .u32 (S.L.gen : Int), .slice la S.L.recs.length lc, .bool S.L.cl, .slice pa S.l.length pc, .int .u64 (S.num : Int), .bool false] HK.out.box0 (by simp)]; simp
           obtain ⟨wa, hwa⟩ : ∃ wa, wa = wc.setCells w.heap.size 0 [.int .i64 r2.n, .slice sa2 sn2 sc2, .slice wa2 wn2 wc2, .bool r2.armed, .bool r2.down, .int .i64 r2.after, .int .u32 (L3.gen : Int), .slice la2 L3.recs.length lc2, .bool L3.cl] := ⟨_, rfl⟩
           rw [<- hwa] at hma hba
           have HMA := qh hma
           have HBA := qh hba
           have HWA := qh hwa
           clear hma hba hwa
           go_upto_region 28 with (first
            | ((with_reducible show wpList _ _ _ (⟨none, Op.store _ _ _, _, _, _, _⟩ :: _) _ _); refine wpList_store_mid rfl 37 _ _ rfl w.heap.size 0 #[.int .i64 r2.n, .slice sa2 sn2 sc2, .slice wa2 wn2 wc2, .bool r2.armed, .bool r2.down, .int .i64 r2.after, .int .u32 (L3.gen : Int), .slice la2 L3.recs.length lc2, .bool L3.cl] (by rfl) (by rfl) HTH0.out (by kernel_rfl) (by simp [Value.oneCell']) ?_)
            | fail)
           rw [show wc.setCells w.heap.size 0 [.int .i64 r2.n, .slice sa2 sn2 sc2, .slice wa2 wn2 wc2, .bool r2.armed, .bool r2.down, .int .i64 r2.after, .int .u32 (L3.gen : Int), .slice la2 L3.recs.length lc2, .bool L3.cl] = wa from HWA.out.symm]
           clear HWA g0 g1 g2 g3 g4 g5 g6 g7 g8 g9 g10 g11
           go_upto_region 29 with (first
            | ((with_reducible show wpList _ _ _ (⟨none, Op.store _ (Operand.tmp 102) _, _, _, _, _⟩ :: _) _ _); refine wpl_store_part _ rfl _ (.tmp 102) (.tmp 101) rfl w.heap.size 11 41 [.int .i64 r2.n, .slice sa2 sn2 sc2, .slice wa2 wn2 wc2, .bool r2.armed, .bool r2.down, .int .i64 r2.after, .int .u32 (L3.gen : Int), .slice la2 L3.recs.length lc2, .bool L3.cl, .slice pa S.l.length pc, .int .u64 (S.num : Int), .bool false] HBA.out rfl (.bool d3) rfl [.bool d3] rfl [.int .i64 r2.n, .slice sa2 sn2 sc2, .slice wa2 wn2 wc2, .bool r2.armed, .bool r2.down, .int .i64 r2.after, .int .u32 (L3.gen : Int), .slice la2 L3.recs.length lc2, .bool L3.cl, .slice pa S.l.length pc, .int .u64 (S.num : Int), .bool d3] rfl (by simp) size_bo (by simp [Value.oneCell']) ?_; intro wb hbn hmn hszn; have HMB := qh hmn; have HBB2 := qh hbn; clear hbn hmn hszn)
            | fail)
           obtain ⟨g0, g1, g2, g3, g4, g5, g6, g7, g8, g9, g10, g11⟩ := box12 HBB2.out
           have HB1F := qh (HK.out.box1_at HMA.out HMB.out)
           generalize wb = WF at *
           have HTH := qh (there_blk (cs := [.int .i64 0, .slice none 0 0, .slice none 0 0, .bool false, .bool false, .int .i64 0, .int .u32 0, .slice none 0 0, .bool false, .slice none 0 0, .int .u64 0, .bool false]) HB1F.out 0 12 (by simp))
           have hms := mod_setCells (fun z => z = w.heap.size + 1) WF (w.heap.size + 1) 0 [.int .i64 r2.n, .slice sa2 sn2 sc2, .slice wa2 wn2 wc2, .bool r2.armed, .bool r2.down, .int .i64 r2.after, .int .u32 (L3.gen : Int), .slice la2 L3.recs.length lc2, .bool L3.cl, .slice pa S.l.length pc, .int .u64 (S.num : Int), .bool d3] rfl
           have HMS := qh hms
           clear hms
           go_wp2_with (first
            | ((with_reducible show wpList _ _ _ (⟨none, Op.store _ _ _, _, _, _, _⟩ :: _) _ _); refine wpList_store_mid rfl 41 _ _ rfl (w.heap.size + 1) 0 #[.int .i64 r2.n, .slice sa2 sn2 sc2, .slice wa2 wn2 wc2, .bool r2.armed, .bool r2.down, .int .i64 r2.after, .int .u32 (L3.gen : Int), .slice la2 L3.recs.length lc2, .bool L3.cl, .slice pa S.l.length pc, .int .u64 (S.num : Int), .bool d3] (by rfl) (by rfl) HTH.out (by kernel_rfl) (by simp [Value.oneCell']) ?_)
            | fail)
           have hbs : (WF.setCells (w.heap.size + 1) 0 [.int .i64 r2.n, .slice sa2 sn2 sc2, .slice wa2 wn2 wc2, .bool r2.armed, .bool r2.down, .int .i64 r2.after, .int .u32 (L3.gen : Int), .slice la2 L3.recs.length lc2, .bool L3.cl, .slice pa S.l.length pc, .int .u64 (S.num : Int), .bool d3]).heap[w.heap.size + 1]? = some (.cells #[.int .i64 r2.n, .slice sa2 sn2 sc2, .slice wa2 wn2 wc2, .bool r2.armed, .bool r2.down, .int .i64 r2.after, .int .u32 (L3.gen : Int), .slice la2 L3.recs.length lc2, .bool L3.cl, .slice pa S.l.length pc, .int .u64 (S.num : Int), .bool d3] 41 (0, 0)) := by rw [blk_setCells (w.heap.size + 1) 41 [.int .i64 r2.n, .slice sa2 sn2 sc2, .slice wa2 wn2 wc2, .bool r2.armed, .bool r2.down, .int .i64 r2.after, .int .u32 (L3.gen : Int), .slice la2 L3.recs.length lc2, .bool L3.cl, .slice pa S.l.length pc, .int .u64 (S.num : Int), .bool d3] 0 WF [.int .i64 0, .slice none 0 0, .slice none 0 0, .bool false, .bool false, .int .i64 0, .int .u32 0, .slice none 0 0, .bool false, .slice none 0 0, .int .u64 0, .bool false] HB1F.out (by simp)]; simp
           refine bodyPost_ret_by (results_s3 (c := 4) (d := 5) (f := 6) rfl _ _ (w.heap.size + 1) 41 #[.int .i64 r2.n, .slice sa2 sn2 sc2, .slice wa2 wn2 wc2, .bool r2.armed, .bool r2.down, .int .i64 r2.after, .int .u32 (L3.gen : Int), .slice la2 L3.recs.length lc2, .bool L3.cl, .slice pa S.l.length pc, .int .u64 (S.num : Int), .bool d3] _ (by rfl) hbs (by kernel_rfl)) rfl ?_
           rw [HR.out]
           exact HK.out.fail H.out HMA.out HBA.out HMB.out HMS.out
end Go.Proofs.YtnjfioikpajhlaaGreat
