import Derived.Test.YtnjfioikpajhlaaGreatMRef6
import Derived.Test.YtnjfioikpajhlaaGreatRefG6
import Derived.Test.YtnjfioikpajhlaaGreatRefH
set_option maxRecDepth 100000
set_option maxHeartbeats 64000000
/- The document's store: Open. (Printed by tools/mkrefj6.py.) -/
namespace Go.Proofs.YtnjfioikpajhlaaGreat
open Go.RowKit Go.Shelf
theorem results_s1 {fn : Func} {c d : Tmp} (h : fn.results = #[.cell c 41, .tmp d]) (tmps : Array Value) (w : World) (g : Nat) (t : TypeId) (cs : Array Value) (fr : Nat × Nat)
 (hp : tmps.getD c undef = .pointer (some ⟨g, 0, none⟩)) (hg : w.heap[g]? = some (.cells cs t fr)) (hi : (Tryz.prog.info? 41).map (·.size) = some cs.size) :
 (results fn tmps).run Tryz.prog w = .ok (.tuple #[.agg cs, tmps.getD d undef]) w := by
 have hp' : tmps[c]?.getD undef = .pointer (some ⟨g, 0, none⟩) := by simpa using hp
 have hr := run_loadVar_row w g t 41 cs fr _ hg Tryz.underlying41 rfl hi
 simp [results, h, hp', asAddr, hr]
def gL (r : Ref4) (sv wv : Value) (gen : Nat) (lv : Value) (cl : Bool) : G9 := ⟨.int .i64 r.n, sv, wv, .bool r.armed, .bool r.down, .int .i64 r.after, .int .u32 (gen : Int), lv, .bool cl⟩
structure RefS (w : World) (X : Nat -> Prop) (S : S6.St) (r : Ref4) (sv wv lv pv : Value) : Prop where
 log : RefL w X S.L r sv wv lv
 prs : RPs w pv S.l
 pX : ∀ k, pv.ownBlock = some k -> X k
 pL : ∀ k, pv.ownBlock = some k -> k < w.heap.size
theorem RefS.ext {w w' : World} {X : Nat -> Prop} {S : S6.St} {r : Ref4} {sv wv lv pv : Value} (h : RefS w X S r sv wv lv pv) (hx : Ext w w') : RefS w' X S r sv wv lv pv :=
 ⟨h.log.ext hx, h.prs.ext hx, h.pX, fun k hk => Nat.lt_of_lt_of_le (h.pL k hk) hx.size⟩
theorem RefS.more {w : World} {X Y : Nat -> Prop} {S : S6.St} {r : Ref4} {sv wv lv pv : Value} (h : RefS w X S r sv wv lv pv) (hXY : ∀ k, X k -> Y k) : RefS w Y S r sv wv lv pv :=
 ⟨h.log.more hXY, h.prs, fun k hk => hXY k (h.pX k hk), h.pL⟩
theorem RefS.all {w w' : World} {X : Nat -> Prop} {S : S6.St} {r : Ref4} {sv wv lv pv : Value} (h : RefS w X S r sv wv lv pv) (hx : Ext w w') : RefS w' (New X w w') S r sv wv lv pv := (h.ext hx).more (fun _ hk => .inl hk)
theorem RefS.keeps {w w' : World} {X : Nat -> Prop} {S : S6.St} {r : Ref4} {sv wv lv pv : Value} (h : RefS w X S r sv wv lv pv) (hk : Keeps X w w') : RefS w' X S r sv wv lv pv :=
 ⟨h.log.keeps hk, ReadsN.keeps h.prs hk h.pX, h.pX, fun k hp => Nat.lt_of_lt_of_le (h.pL k hp) hk.size⟩
def G9.One (g : G9) : Prop := g.g0.oneCell' = true /\ g.g1.oneCell' = true /\ g.g2.oneCell' = true /\ g.g3.oneCell' = true /\ g.g4.oneCell' = true /\ g.g5.oneCell' = true /\ g.g6.oneCell' = true /\ g.g7.oneCell' = true /\ g.g8.oneCell' = true
def Open6Out (w w' : World) (X : Nat -> Prop) (x : W5.Lg × Option S6.St × Int) (B : Nat) (e : Ending) : Prop :=
 ∃ g pv num, e = .returned (.tuple #[s6v g pv num false, .int .i64 x.2.2]) /\ G9.One g /\ (∃ a n c, pv = .slice a n c) /\ Ext w w' /\ ∀ S, x.2.1 = some S -> ∃ r' sv' wv' lv', g = gL r' sv' wv' S.L.gen lv' S.L.cl /\ num = S.num /\ S.cl = false /\ RefS w' (New X w w') S r' sv' wv' lv' pv /\ R4.len r' <= B
theorem RefL.store12 {w w' : World} {X : Nat -> Prop} {L : W5.Lg} {r : Ref4} {sv wv lv : Value} (h : RefL w X L r sv wv lv) {b : Nat} {A : Array Value} (hb : w.heap[b]? = some (.cells A 41 (0, 0))) (hm : Mod (fun k => k = b) w w') : RefL w' X L r sv wv lv :=
 ⟨h.at_.store5 hb (by decide) hm, h.rel, ownsRow_mod h.row hm (own_ne h.row hb (by decide)), h.rowX⟩
structure O6 (w4 wr : World) (g : G9) (recs : List (List UInt8)) (i : Nat) (l : List S6.Pr) (m : Nat) (pv : Value) : Prop where
 ext : Ext w4 wr
 lt : w4.heap.size < wr.heap.size
 blk : wr.heap[w4.heap.size]? = some (.cells #[g.g0, g.g1, g.g2, g.g3, g.g4, g.g5, g.g6, g.g7, g.g8, pv, .int .u64 (m : Int), .bool false] 41 (0, 0))
 pl : S6.playF (recs.take i) [] 0 = some (l, m)
 prs : RPs wr pv l
 px : ∀ k, pv.ownBlock = some k -> w4.heap.size < k /\ k < wr.heap.size
 srt : S6.Srt l
 len : l.length <= 64 * i
theorem O6.start (w4 : World) (g : G9) (recs : List (List UInt8)) : O6 w4 (w4.alloc (.cells #[g.g0, g.g1, g.g2, g.g3, g.g4, g.g5, g.g6, g.g7, g.g8, .slice none 0 0, .int .u64 0, .bool false] 41)) g recs 0 [] 0 (.slice none 0 0) :=
 ⟨Ext.of_alloc _ _, by simp, heap_alloc_new _ _, rfl, RPs.nil _, (fun k hk => by cases hk), List.Pairwise.nil, Nat.zero_le _⟩
theorem O6.next {w4 wr w7 : World} {g : G9} {recs : List (List UInt8)} {i : Nat} {l : List S6.Pr} {m n : Nat} {pv pv' : Value} {ws : List S6.Wr} (h : O6 w4 wr g recs i l m pv) (hi : i < recs.length) (hb : S6.readB recs[i] = some (n, ws)) (hx : Ext wr w7) (hP : RPs w7 pv' (S6.apl l n ws))
 (hpx : ∀ k, pv'.ownBlock = some k -> (pv.ownBlock = some k ∨ wr.heap.size <= k) /\ k < w7.heap.size) :
 O6 w4 (w7.setCells w4.heap.size 0 [g.g0, g.g1, g.g2, g.g3, g.g4, g.g5, g.g6, g.g7, g.g8, pv', .int .u64 ((max m n : Nat) : Int), .bool false]) g recs (i + 1) (S6.apl l n ws) (max m n) pv' := by
 have hm := mod_setCells (fun z => z = w4.heap.size) w7 w4.heap.size 0 [g.g0, g.g1, g.g2, g.g3, g.g4, g.g5, g.g6, g.g7, g.g8, pv', .int .u64 ((max m n : Nat) : Int), .bool false] rfl
 have hb7 := (Below.block (B := wr.heap.size) hx w4.heap.size h.lt).trans h.blk
 have hpx2 : ∀ k, pv'.ownBlock = some k -> w4.heap.size < k /\ k < w7.heap.size := fun k hk => by
  obtain ⟨h1 | h1, h2⟩ := hpx k hk
  ·exact ⟨(h.px k h1).1, h2⟩
  ·have := h.lt; exact ⟨by omega, h2⟩
 refine ⟨Mod.ext (h.ext.trans hx) hm (fun z hz => Nat.le_of_eq hz.symm), Nat.lt_of_lt_of_le h.lt (Nat.le_trans hx.size hm.size), ?_, S6.play_step hi h.pl hb, hP.mod hm (fun k hk e => by have := (hpx2 k hk).1; omega), fun k hk => ⟨(hpx2 k hk).1, Nat.lt_of_lt_of_le (hpx2 k hk).2 hm.size⟩, S6.apl_srt h.srt _ _, ?_⟩
 ·rw [blk_setCells w4.heap.size 41 [g.g0, g.g1, g.g2, g.g3, g.g4, g.g5, g.g6, g.g7, g.g8, pv', .int .u64 ((max m n : Nat) : Int), .bool false] 0 w7 [g.g0, g.g1, g.g2, g.g3, g.g4, g.g5, g.g6, g.g7, g.g8, pv, .int .u64 (m : Int), .bool false] hb7 (by simp)]; simp
 ·have h1 := S6.apl_len n ws l
  have h2 := (S6.readB_ok hb).2.1
  have h3 := h.len
  omega
theorem refOpen6 (r : Ref4) (X : Nat -> Prop) (sv wv : Value) (d : D.Dsk) (hrel : Rel d r) (hok : D.Ok d) (w : World) (h : RefAt w X r sv wv) (hlen : R4.len r <= 700000) (hrl : ∀ b ∈ (W5.open_ d).1.recs, b.length <= 100000) (hrn : (W5.open_ d).1.recs.length <= 5000) :
 Calls Tryz.prog 7 #[rv r sv wv] w fun e w' => Open6Out w w' X (S6.openS d) (R4.len r + 2048) e := by
 obtain ⟨sa, sn, sc, rfl⟩ := h.safe.any
 obtain ⟨wa, wn, wc, rfl⟩ := h.wait.any
 have hx1 := (Ext.of_alloc w (.cells #[.int .i64 r.n, .slice sa sn sc, .slice wa wn wc, .bool r.armed, .bool r.down, .int .i64 r.after] 33)).alloc (.cells #[.int .i64 0, .slice none 0 0, .slice none 0 0, .bool false, .bool false, .int .i64 0, .int .u32 0, .slice none 0 0, .bool false, .slice none 0 0, .int .u64 0, .bool false] 41)
 obtain ⟨hb0, hb1⟩ := two_boxes' w #[.int .i64 r.n, .slice sa sn sc, .slice wa wn wc, .bool r.armed, .bool r.down, .int .i64 r.after] #[.int .i64 0, .slice none 0 0, .slice none 0 0, .bool false, .bool false, .int .i64 0, .int .u32 0, .slice none 0 0, .bool false, .slice none 0 0, .int .u64 0, .bool false] 33 41
 have hs1 : ((w.alloc (.cells #[.int .i64 r.n, .slice sa sn sc, .slice wa wn wc, .bool r.armed, .bool r.down, .int .i64 r.after] 33)).alloc (.cells #[.int .i64 0, .slice none 0 0, .slice none 0 0, .bool false, .bool false, .int .i64 0, .int .u32 0, .slice none 0 0, .bool false, .slice none 0 0, .int .u64 0, .bool false] 41)).heap.size = w.heap.size + 2 := by simp
 obtain ⟨W1, hW1⟩ : ∃ W1, W1 = (w.alloc (.cells #[.int .i64 r.n, .slice sa sn sc, .slice wa wn wc, .bool r.armed, .bool r.down, .int .i64 r.after] 33)).alloc (.cells #[.int .i64 0, .slice none 0 0, .slice none 0 0, .bool false, .bool false, .int .i64 0, .int .u32 0, .slice none 0 0, .bool false, .slice none 0 0, .int .u64 0, .bool false] 41) := ⟨_, rfl⟩
 rw [<- hW1] at hx1 hb0 hb1 hs1
 have hop := refOpen r X _ _ d hrel hok W1 (h.ext hx1) hlen
 have HOP := qh hop
 have HX1 := qh hx1
 have HB1 := qh hb1
 have HW1 := qh hW1
 have HS1 := qh hs1
 have HSOP := qh (show S6.openS d = if (W5.open_ d).2 ≠ 0 then ((W5.open_ d).1, none, (W5.open_ d).2) else match S6.play (W5.open_ d).1.recs with
  | none => ((W5.open_ d).1, none, 4)
  | some (l, m) => ((W5.open_ d).1, some ⟨(W5.open_ d).1, l, m, false⟩, 0) from rfl)
 have HRL := qh hrl
 obtain ⟨c0, c1, c2, c3, c4, c5, -, -, -, -, -, -⟩ := box_facts hb0
 generalize hB : R4.len r + 2048 = B at *
 have HB := qh hB
 generalize S6.openS d = O at *
 generalize W5.open_ d = R at *
 obtain ⟨L, code⟩ := R
 simp only at HSOP HRL hrn
 unfold rv at HOP ⊢
 clear hop hx1 hb0 hb1 hW1 hs1 hrl hrel hok h hB
 go_enter Tryz.func7, Tryz.ntmps7
 go_upto_region 1 with fail
 rw [show (w.alloc (.cells #[.int .i64 r.n, .slice sa sn sc, .slice wa wn wc, .bool r.armed, .bool r.down, .int .i64 r.after] 33)).alloc (.cells #[.int .i64 0, .slice none 0 0, .slice none 0 0, .bool false, .bool false, .int .i64 0, .int .u32 0, .slice none 0 0, .bool false, .slice none 0 0, .int .u64 0, .bool false] 41) = W1 from HW1.out.symm]
 clear HW1
 go_wp2_with fail
 unfold OpenOut at HOP
 refine HOP.out.mono ?_
 clear HOP c0 c1 c2 c3 c4 c5
 rintro e w2 ⟨r2, sv2, wv2, lv2, g, cl, rfl, ⟨sa2, sn2, sc2, rfl⟩, ⟨wa2, wn2, wc2, rfl⟩, ⟨la, ln, lc, rfl⟩, hx2, hdet⟩
 simp only at hdet
 have hx3 := Ext.of_alloc w2 (.cells #[.int .i64 r2.n, .slice sa2 sn2 sc2, .slice wa2 wn2 wc2, .bool r2.armed, .bool r2.down, .int .i64 r2.after, .int .u32 (g : Int), .slice la ln lc, .bool cl] 37)
 have hb3 := heap_alloc_new w2 (.cells #[.int .i64 r2.n, .slice sa2 sn2 sc2, .slice wa2 wn2 wc2, .bool r2.armed, .bool r2.down, .int .i64 r2.after, .int .u32 (g : Int), .slice la ln lc, .bool cl] 37)
 have hs3 : (w2.alloc (.cells #[.int .i64 r2.n, .slice sa2 sn2 sc2, .slice wa2 wn2 wc2, .bool r2.armed, .bool r2.down, .int .i64 r2.after, .int .u32 (g : Int), .slice la ln lc, .bool cl] 37)).heap.size = w2.heap.size + 1 := World.size_alloc _ _
 obtain ⟨w3, hw3⟩ : ∃ w3, w3 = w2.alloc (.cells #[.int .i64 r2.n, .slice sa2 sn2 sc2, .slice wa2 wn2 wc2, .bool r2.armed, .bool r2.down, .int .i64 r2.after, .int .u32 (g : Int), .slice la ln lc, .bool cl] 37) := ⟨_, rfl⟩
 rw [<- hw3] at hx3 hb3 hs3
 have hx4 := Ext.of_alloc w3 (.cells #[.int .i64 r2.n, .slice sa2 sn2 sc2, .slice wa2 wn2 wc2, .bool r2.armed, .bool r2.down, .int .i64 r2.after, .int .u32 0, .slice none 0 0, .bool false, .slice none 0 0, .int .u64 0, .bool false] 41)
 have hb4 := heap_alloc_new w3 (.cells #[.int .i64 r2.n, .slice sa2 sn2 sc2, .slice wa2 wn2 wc2, .bool r2.armed, .bool r2.down, .int .i64 r2.after, .int .u32 0, .slice none 0 0, .bool false, .slice none 0 0, .int .u64 0, .bool false] 41)
 have hs4 : (w3.alloc (.cells #[.int .i64 r2.n, .slice sa2 sn2 sc2, .slice wa2 wn2 wc2, .bool r2.armed, .bool r2.down, .int .i64 r2.after, .int .u32 0, .slice none 0 0, .bool false, .slice none 0 0, .int .u64 0, .bool false] 41)).heap.size = w3.heap.size + 1 := World.size_alloc _ _
 obtain ⟨w4, hw4⟩ : ∃ w4, w4 = w3.alloc (.cells #[.int .i64 r2.n, .slice sa2 sn2 sc2, .slice wa2 wn2 wc2, .bool r2.armed, .bool r2.down, .int .i64 r2.after, .int .u32 0, .slice none 0 0, .bool false, .slice none 0 0, .int .u64 0, .bool false] 41) := ⟨_, rfl⟩
 rw [<- hw4] at hx4 hb4 hs4
 have HX2 := qh hx2
 have HX4 := qh (hx3.trans hx4)
 have HB3 := qh ((Below.block (B := w3.heap.size) hx4 w2.heap.size (by omega)).trans hb3)
 have HB4 := qh hb4
 have HW3 := qh hw3
 have HW4 := qh hw4
 have HS3 := qh hs3
 have HS4 := qh hs4
 have HDET := qh hdet
 obtain ⟨e0, e1, e2, e3, e4, e5, e6, e7, e8, -, -, -, -, -, -, -, -, -⟩ := nine_facts hb3
 clear hx2 hx3 hb3 hs3 hw3 hx4 hb4 hs4 hw4 hdet
 unfold lgv
 go_upto_region 2 with fail
 rw [show w2.alloc (.cells #[.int .i64 r2.n, .slice sa2 sn2 sc2, .slice wa2 wn2 wc2, .bool r2.armed, .bool r2.down, .int .i64 r2.after, .int .u32 (g : Int), .slice la ln lc, .bool cl] 37) = w3 from HW3.out.symm]
 clear HW3
 go_upto_region 3 with fail
 rw [show w3.alloc (.cells #[.int .i64 r2.n, .slice sa2 sn2 sc2, .slice wa2 wn2 wc2, .bool r2.armed, .bool r2.down, .int .i64 r2.after, .int .u32 0, .slice none 0 0, .bool false, .slice none 0 0, .int .u64 0, .bool false] 41) = w4 from HW4.out.symm]
 clear HW4 e0 e1 e2 e3 e4 e5 e6 e7 e8
 obtain ⟨e0, e1, e2, e3, e4, e5, e6, e7, e8, -, -, -, -, -, -, -, -, -⟩ := nine_facts HB3.out
 have HX14 := qh (HX2.out.trans HX4.out)
 have HB14 := qh ((Below.block (B := W1.heap.size) HX14.out (w.heap.size + 1) (by have := HS1.out; omega)).trans HB1.out)
 by_cases hc : code = 0
 ·subst hc
  obtain ⟨rfl, rfl, hRL, hBB⟩ := HDET.out rfl
  have hso : O = match S6.play L.recs with
   | none => (L, none, 4)
   | some (l, m) => (L, some ⟨L, l, m, false⟩, 0) := by rw [HSOP.out, if_neg (by simp)]
  have HSO := qh hso
  have hrow := Reads.of_own hRL.row (str_one _)
  obtain ⟨la', lc', hle⟩ := str_shape hrow
  obtain ⟨rfl, rfl, rfl⟩ := Value.slice.inj hle
  have HROW := qh hrow
  have HRFL := qh hRL
  have HBB := qh hBB
  obtain ⟨w5, hw5⟩ : ∃ w5, w5 = w4.alloc (.cells #[.int .i64 r2.n, .slice sa2 sn2 sc2, .slice wa2 wn2 wc2, .bool r2.armed, .bool r2.down, .int .i64 r2.after, .int .u32 (L.gen : Int), .slice la L.recs.length lc, .bool L.cl, .slice none 0 0, .int .u64 0, .bool false] 41) := ⟨_, rfl⟩
  have ho0 : O6 w4 w5 (gL r2 (.slice sa2 sn2 sc2) (.slice wa2 wn2 wc2) L.gen (.slice la L.recs.length lc) L.cl) L.recs 0 [] 0 (.slice none 0 0) := by rw [hw5]; exact O6.start w4 (gL r2 (.slice sa2 sn2 sc2) (.slice wa2 wn2 wc2) L.gen (.slice la L.recs.length lc) L.cl) L.recs
  have HO0 := qh ho0
  have HW5 := qh hw5
  have hrni : (L.recs.length : Int) <= 5000 := by omega
  have HONE : Hid (∀ b, (b : Bool) = b) := fun _ => rfl
  clear hso HSOP HDET hrow hle hRL hBB hw5 ho0 HONE
  go_upto_region 6 with fail
  rw [show w4.alloc (.cells #[.int .i64 r2.n, .slice sa2 sn2 sc2, .slice wa2 wn2 wc2, .bool r2.armed, .bool r2.down, .int .i64 r2.after, .int .u32 (L.gen : Int), .slice la L.recs.length lc, .bool L.cl, .slice none 0 0, .int .u64 0, .bool false] 41) = w5 from HW5.out.symm]
  clear HW5 e0 e1 e2 e3 e4 e5 e6 e8
  go_wp2_with fail
  go_loopw [8] (fun iv wr => ∃ (i : Nat) (l : List S6.Pr) (m : Nat) (pv : Value), i <= L.recs.length /\ iv = .int .i64 (i : Int) /\ Hid (O6 w4 wr (gL r2 (.slice sa2 sn2 sc2) (.slice wa2 wn2 wc2) L.gen (.slice la L.recs.length lc) L.cl) L.recs i l m pv)) (fun iv _ => L.recs.length - (intOf iv).toNat)
  case atStart => exact ⟨0, [], 0, _, Nat.zero_le _, rfl, HO0⟩
  case round =>
   clear HO0
   obtain ⟨i, l, m, pv, hi, rfl, hO⟩ := hrel
   obtain ⟨-, pa, pc, rfl, -, -⟩ := hO.out.prs.shape
   have e7r := hO.out.ext.cell e7
   by_cases hlt : i < L.recs.length
   ·have hlti : (i : Int) < (L.recs.length : Int) := by omega
    obtain ⟨rb, ro, rfl, y0⟩ := str_at HROW.out i hlt
    replace y0 := hO.out.ext.cell (HX4.out.cell y0)
    have hrd := refRead6 L.recs[i] wr (HRL.out _ (List.getElem_mem hlt))
    have HNX := qh (fun n ws (hb : S6.readB L.recs[i] = some (n, ws)) w7 pv' (hx : Ext wr w7) hP hpx => O6.next (n := n) (ws := ws) (w7 := w7) (pv' := pv') hO.out hlt hb hx hP hpx)
    have HPN := qh (fun hb => S6.play_bad hlt hO.out.pl hb)
    have HRO := qh (fun n ws (hb : S6.readB L.recs[i] = some (n, ws)) => S6.readB_ok hb)
    generalize L.recs[i] = rec at *
    have HRD := qh hrd
    clear hrd
    go_wp2_with fail
    refine HRD.out.mono ?_
    clear HRD e7r y0
    rintro e w6 ⟨n, yv, ok, rfl, hx6, hok, hdet⟩
    cases h6 : S6.readB rec with
    | none =>
     rw [h6] at hok
     obtain rfl : ok = false := hok
     have ho : O = (L, none, 4) := by rw [HSO.out, HPN.out h6]
     have HO := qh ho
     have hx46 := hO.out.ext.trans hx6
     have HX46 := qh hx46
     obtain ⟨f0, f1, f2, f3, f4, f5, f6, f7, f8, f9, f10, f11⟩ := box12 ((Below.block (B := w4.heap.size) hx46 w3.heap.size (by have := HS4.out; omega)).trans HB4.out)
     have HXF := qh (HX1.out.trans (HX14.out.trans hx46))
     have HB1F := qh ((Below.block (B := w4.heap.size) hx46 (w.heap.size + 1) (by have := HX14.out.size; have := HS1.out; omega)).trans HB14.out)
     clear ho hdet h6 HNX HPN HRO hO hx6 hx46
     generalize w6 = WF at *
     have HTH := qh (there_blk (cs := [.int .i64 0, .slice none 0 0, .slice none 0 0, .bool false, .bool false, .int .i64 0, .int .u32 0, .slice none 0 0, .bool false, .slice none 0 0, .int .u64 0, .bool false]) HB1F.out 0 12 (by simp))
     have hms := mod_setCells (fun z => z = w.heap.size + 1) WF (w.heap.size + 1) 0 [.int .i64 r2.n, .slice sa2 sn2 sc2, .slice wa2 wn2 wc2, .bool r2.armed, .bool r2.down, .int .i64 r2.after, .int .u32 0, .slice none 0 0, .bool false, .slice none 0 0, .int .u64 0, .bool false] rfl
     have HMS := qh hms
     clear hms
     go_wp2_with (first
      | ((with_reducible show wpList _ _ _ (⟨none, Op.store _ _ _, _, _, _, _⟩ :: _) _ _); refine wpList_store_mid rfl 41 _ _ rfl (w.heap.size + 1) 0 #[.int .i64 r2.n, .slice sa2 sn2 sc2, .slice wa2 wn2 wc2, .bool r2.armed, .bool r2.down, .int .i64 r2.after, .int .u32 0, .slice none 0 0, .bool false, .slice none 0 0, .int .u64 0, .bool false] (by rfl) (by rfl) HTH.out (by kernel_rfl) (by simp [Value.oneCell']) ?_)
      | fail)
     have hbs : (WF.setCells (w.heap.size + 1) 0 [.int .i64 r2.n, .slice sa2 sn2 sc2, .slice wa2 wn2 wc2, .bool r2.armed, .bool r2.down, .int .i64 r2.after, .int .u32 0, .slice none 0 0, .bool false, .slice none 0 0, .int .u64 0, .bool false]).heap[w.heap.size + 1]? = some (.cells #[.int .i64 r2.n, .slice sa2 sn2 sc2, .slice wa2 wn2 wc2, .bool r2.armed, .bool r2.down, .int .i64 r2.after, .int .u32 0, .slice none 0 0, .bool false, .slice none 0 0, .int .u64 0, .bool false] 41 (0, 0)) := by rw [blk_setCells (w.heap.size + 1) 41 [.int .i64 r2.n, .slice sa2 sn2 sc2, .slice wa2 wn2 wc2, .bool r2.armed, .bool r2.down, .int .i64 r2.after, .int .u32 0, .slice none 0 0, .bool false, .slice none 0 0, .int .u64 0, .bool false] 0 WF [.int .i64 0, .slice none 0 0, .slice none 0 0, .bool false, .bool false, .int .i64 0, .int .u32 0, .slice none 0 0, .bool false, .slice none 0 0, .int .u64 0, .bool false] HB1F.out (by simp)]; simp
     refine bodyPost_ret_by (results_s1 (c := 2) (d := 3) rfl _ _ (w.heap.size + 1) 41 #[.int .i64 r2.n, .slice sa2 sn2 sc2, .slice wa2 wn2 wc2, .bool r2.armed, .bool r2.down, .int .i64 r2.after, .int .u32 0, .slice none 0 0, .bool false, .slice none 0 0, .int .u64 0, .bool false] _ (by rfl) hbs (by kernel_rfl)) rfl ?_
     rw [HO.out]
     exact ⟨⟨.int .i64 r2.n, .slice sa2 sn2 sc2, .slice wa2 wn2 wc2, .bool r2.armed, .bool r2.down, .int .i64 r2.after, .int .u32 0, .slice none 0 0, .bool false⟩, .slice none 0 0, 0, rfl, ⟨rfl, rfl, rfl, rfl, rfl, rfl, rfl, rfl, rfl⟩, ⟨_, _, _, rfl⟩, Mod.ext HXF.out HMS.out (fun z hz => by omega), fun S hS => by cases hS⟩
    | some x =>
     obtain ⟨n2, ws2⟩ := x
     rw [h6] at hok
     obtain rfl : ok = true := hok
     obtain ⟨rfl, hyv⟩ := hdet n2 ws2 h6
     have hx46 := hO.out.ext.trans hx6
     have hb6 := (Below.block (B := wr.heap.size) hx6 w4.heap.size hO.out.lt).trans hO.out.blk
     obtain ⟨f0, f1, f2, f3, f4, f5, f6, f7, f8, f9, f10, f11⟩ := box12 hb6
     have hl4 := hO.out.len
     have hap := refApply w6 (gL r2 (.slice sa2 sn2 sc2) (.slice wa2 wn2 wc2) L.gen (.slice (some ⟨rb, ro, none⟩) L.recs.length lc) L.cl) (.slice pa l.length pc) m n2 false l yv ws2 (hO.out.prs.ext hx6) (fun k hk => Nat.lt_of_lt_of_le (hO.out.px k hk).2 hx6.size) (by omega) hO.out.srt hyv (by have := (HRO.out n2 ws2 h6).2.1; omega) ⟨rfl, rfl, rfl, rfl, rfl, rfl, rfl, rfl, rfl⟩
     have HAP := qh hap
     have HX6 := qh hx6
     have HNY := qh (HNX.out n2 ws2 h6)
     have HB6 := qh hb6
     clear hap hdet h6 HNX HPN HRO hx46 hb6 hl4 hyv hx6
     unfold gL s6v at HAP
     simp only [gL] at f0 f1 f2 f3 f4 f5 f6 f7 f8
     go_wp2_with fail
     refine HAP.out.mono ?_
     clear HAP f0 f1 f2 f3 f4 f5 f6 f7 f8 f9 f10 f11
     rintro e w7 ⟨pv2, rfl, hP2, hpx2, hx7⟩
     obtain ⟨-, pb, pd, rfl, -, -⟩ := hP2.shape
     have hb7 := (Below.block (B := w6.heap.size) hx7 w4.heap.size (Nat.lt_of_lt_of_le hO.out.lt HX6.out.size)).trans HB6.out
     have HTH := qh (there_blk (cs := [.int .i64 r2.n, .slice sa2 sn2 sc2, .slice wa2 wn2 wc2, .bool r2.armed, .bool r2.down, .int .i64 r2.after, .int .u32 (L.gen : Int), .slice (some ⟨rb, ro, none⟩) L.recs.length lc, .bool L.cl, .slice pa l.length pc, .int .u64 (m : Int), .bool false]) hb7 0 12 (by simp))
     have HN8 := qh (HNY.out w7 _ (HX6.out.trans hx7) hP2 (fun k hk => ⟨(hpx2 k hk).1.imp id (fun h => Nat.le_trans HX6.out.size h), (hpx2 k hk).2⟩))
     clear HNY hP2 hpx2 hb7 HB6 hO
     go_wp2_with (first
      | ((with_reducible show wpList _ _ _ (⟨none, Op.store _ _ _, _, _, _, _⟩ :: _) _ _); refine wpList_store_mid rfl 41 _ _ rfl w4.heap.size 0 #[.int .i64 r2.n, .slice sa2 sn2 sc2, .slice wa2 wn2 wc2, .bool r2.armed, .bool r2.down, .int .i64 r2.after, .int .u32 (L.gen : Int), .slice (some ⟨rb, ro, none⟩) L.recs.length lc, .bool L.cl, .slice pb (S6.apl l n2 ws2).length pd, .int .u64 ((max m n2 : Nat) : Int), .bool false] (by rfl) (by rfl) HTH.out (by kernel_rfl) (by simp [Value.oneCell']) ?_)
      | fail)
     exact ⟨⟨i + 1, _, _, _, by omega, by go_num, HN8⟩, by simp [intOf]; omega⟩
   ·obtain rfl : i = L.recs.length := by omega
    have hge : ¬ ((L.recs.length : Nat) : Int) < (L.recs.length : Int) := by omega
    have hpl := hO.out.pl
    rw [List.take_length] at hpl
    have hpl2 : S6.play L.recs = some (l, m) := hpl
    have ho : O = (L, some ⟨L, l, m, false⟩, 0) := by rw [HSO.out, hpl2]
    have HO := qh ho
    have hx46 := hO.out.ext
    have HX46 := qh hx46
    obtain ⟨f0, f1, f2, f3, f4, f5, f6, f7, f8, f9, f10, f11⟩ := box12 hO.out.blk
    simp only [gL] at f0 f1 f2 f3 f4 f5 f6 f7 f8
    have HXF := qh (HX1.out.trans (HX14.out.trans hx46))
    have HB1F := qh ((Below.block (B := w4.heap.size) hx46 (w.heap.size + 1) (by have := HX14.out.size; have := HS1.out; omega)).trans HB14.out)
    clear ho hpl hpl2 hx46
    generalize wr = WF at *
    have HTH := qh (there_blk (cs := [.int .i64 0, .slice none 0 0, .slice none 0 0, .bool false, .bool false, .int .i64 0, .int .u32 0, .slice none 0 0, .bool false, .slice none 0 0, .int .u64 0, .bool false]) HB1F.out 0 12 (by simp))
    have hms := mod_setCells (fun z => z = w.heap.size + 1) WF (w.heap.size + 1) 0 [.int .i64 r2.n, .slice sa2 sn2 sc2, .slice wa2 wn2 wc2, .bool r2.armed, .bool r2.down, .int .i64 r2.after, .int .u32 (L.gen : Int), .slice la L.recs.length lc, .bool L.cl, .slice pa l.length pc, .int .u64 (m : Int), .bool false] rfl
    have HMS := qh hms
    clear hms
    go_wp2_with (first
     | ((with_reducible show wpList _ _ _ (⟨none, Op.store _ _ _, _, _, _, _⟩ :: _) _ _); refine wpList_store_mid rfl 41 _ _ rfl (w.heap.size + 1) 0 #[.int .i64 r2.n, .slice sa2 sn2 sc2, .slice wa2 wn2 wc2, .bool r2.armed, .bool r2.down, .int .i64 r2.after, .int .u32 (L.gen : Int), .slice la L.recs.length lc, .bool L.cl, .slice pa l.length pc, .int .u64 (m : Int), .bool false] (by rfl) (by rfl) HTH.out (by kernel_rfl) (by simp [Value.oneCell']) ?_)
     | fail)
    have hbs : (WF.setCells (w.heap.size + 1) 0 [.int .i64 r2.n, .slice sa2 sn2 sc2, .slice wa2 wn2 wc2, .bool r2.armed, .bool r2.down, .int .i64 r2.after, .int .u32 (L.gen : Int), .slice la L.recs.length lc, .bool L.cl, .slice pa l.length pc, .int .u64 (m : Int), .bool false]).heap[w.heap.size + 1]? = some (.cells #[.int .i64 r2.n, .slice sa2 sn2 sc2, .slice wa2 wn2 wc2, .bool r2.armed, .bool r2.down, .int .i64 r2.after, .int .u32 (L.gen : Int), .slice la L.recs.length lc, .bool L.cl, .slice pa l.length pc, .int .u64 (m : Int), .bool false] 41 (0, 0)) := by rw [blk_setCells (w.heap.size + 1) 41 [.int .i64 r2.n, .slice sa2 sn2 sc2, .slice wa2 wn2 wc2, .bool r2.armed, .bool r2.down, .int .i64 r2.after, .int .u32 (L.gen : Int), .slice la L.recs.length lc, .bool L.cl, .slice pa l.length pc, .int .u64 (m : Int), .bool false] 0 WF [.int .i64 0, .slice none 0 0, .slice none 0 0, .bool false, .bool false, .int .i64 0, .int .u32 0, .slice none 0 0, .bool false, .slice none 0 0, .int .u64 0, .bool false] HB1F.out (by simp)]; simp
    refine bodyPost_ret_by (results_s1 (c := 2) (d := 3) rfl _ _ (w.heap.size + 1) 41 #[.int .i64 r2.n, .slice sa2 sn2 sc2, .slice wa2 wn2 wc2, .bool r2.armed, .bool r2.down, .int .i64 r2.after, .int .u32 (L.gen : Int), .slice la L.recs.length lc, .bool L.cl, .slice pa l.length pc, .int .u64 (m : Int), .bool false] _ (by rfl) hbs (by kernel_rfl)) rfl ?_
    rw [HO.out]
    have hms := HMS.out
    have hxf := HXF.out
    generalize WF.setCells (w.heap.size + 1) 0 _ = WE at *
    have hz1 := HX1.out.size
    have hz2 := HX14.out.size
    have hz3 := HX2.out.size
    have hz4 := HX46.out.size
    have hz5 := hms.size
    have hxe : Ext w WE := Mod.ext hxf hms (fun z hz => by omega)
    refine ⟨(gL r2 (.slice sa2 sn2 sc2) (.slice wa2 wn2 wc2) L.gen (.slice la L.recs.length lc) L.cl), .slice pa l.length pc, m, rfl, ⟨rfl, rfl, rfl, rfl, rfl, rfl, rfl, rfl, rfl⟩, ⟨_, _, _, rfl⟩, hxe, fun S hS => ?_⟩
    cases hS
    refine ⟨r2, _, _, _, rfl, rfl, rfl, ⟨?_, ?_, ?_, ?_⟩, HBB.out⟩
    ·refine (RefL.store12 (HRFL.out.ext (HX4.out.trans HX46.out)) HB1F.out hms).more ?_
     rintro k (hk | ⟨h1, h2⟩)
     ·exact .inl hk
     ·have := HX4.out.size; exact .inr ⟨by omega, by omega⟩
    ·exact hO.out.prs.mod hms (fun k hk e => by have := (hO.out.px k hk).1; have := HS1.out; omega)
    ·exact fun k hk => .inr ⟨by have := (hO.out.px k hk).1; omega, by have := (hO.out.px k hk).2; omega⟩
    ·exact fun k hk => by have := (hO.out.px k hk).2; omega
 ·have ho : O = (L, none, code) := by rw [HSOP.out, if_pos hc]
  have HO := qh ho
  have hcb : (code == 0) = false := by rw [beq_eq_false_iff_ne]; exact hc
  obtain ⟨f0, f1, f2, f3, f4, f5, f6, f7, f8, f9, f10, f11⟩ := box12 HB4.out
  have HXF := qh (HX1.out.trans HX14.out)
  have HB1F := HB14
  clear ho HSOP hc
  generalize w4 = WF at *
  have HTH := qh (there_blk (cs := [.int .i64 0, .slice none 0 0, .slice none 0 0, .bool false, .bool false, .int .i64 0, .int .u32 0, .slice none 0 0, .bool false, .slice none 0 0, .int .u64 0, .bool false]) HB1F.out 0 12 (by simp))
  have hms := mod_setCells (fun z => z = w.heap.size + 1) WF (w.heap.size + 1) 0 [.int .i64 r2.n, .slice sa2 sn2 sc2, .slice wa2 wn2 wc2, .bool r2.armed, .bool r2.down, .int .i64 r2.after, .int .u32 0, .slice none 0 0, .bool false, .slice none 0 0, .int .u64 0, .bool false] rfl
  have HMS := qh hms
  clear hms
  go_wp2_with (first
   | ((with_reducible show wpList _ _ _ (⟨none, Op.store _ _ _, _, _, _, _⟩ :: _) _ _); refine wpList_store_mid rfl 41 _ _ rfl (w.heap.size + 1) 0 #[.int .i64 r2.n, .slice sa2 sn2 sc2, .slice wa2 wn2 wc2, .bool r2.armed, .bool r2.down, .int .i64 r2.after, .int .u32 0, .slice none 0 0, .bool false, .slice none 0 0, .int .u64 0, .bool false] (by rfl) (by rfl) HTH.out (by kernel_rfl) (by simp [Value.oneCell']) ?_)
   | fail)
  have hbs : (WF.setCells (w.heap.size + 1) 0 [.int .i64 r2.n, .slice sa2 sn2 sc2, .slice wa2 wn2 wc2, .bool r2.armed, .bool r2.down, .int .i64 r2.after, .int .u32 0, .slice none 0 0, .bool false, .slice none 0 0, .int .u64 0, .bool false]).heap[w.heap.size + 1]? = some (.cells #[.int .i64 r2.n, .slice sa2 sn2 sc2, .slice wa2 wn2 wc2, .bool r2.armed, .bool r2.down, .int .i64 r2.after, .int .u32 0, .slice none 0 0, .bool false, .slice none 0 0, .int .u64 0, .bool false] 41 (0, 0)) := by rw [blk_setCells (w.heap.size + 1) 41 [.int .i64 r2.n, .slice sa2 sn2 sc2, .slice wa2 wn2 wc2, .bool r2.armed, .bool r2.down, .int .i64 r2.after, .int .u32 0, .slice none 0 0, .bool false, .slice none 0 0, .int .u64 0, .bool false] 0 WF [.int .i64 0, .slice none 0 0, .slice none 0 0, .bool false, .bool false, .int .i64 0, .int .u32 0, .slice none 0 0, .bool false, .slice none 0 0, .int .u64 0, .bool false] HB1F.out (by simp)]; simp
  refine bodyPost_ret_by (results_s1 (c := 2) (d := 3) rfl _ _ (w.heap.size + 1) 41 #[.int .i64 r2.n, .slice sa2 sn2 sc2, .slice wa2 wn2 wc2, .bool r2.armed, .bool r2.down, .int .i64 r2.after, .int .u32 0, .slice none 0 0, .bool false, .slice none 0 0, .int .u64 0, .bool false] _ (by rfl) hbs (by kernel_rfl)) rfl ?_
  rw [HO.out]
  exact ⟨⟨.int .i64 r2.n, .slice sa2 sn2 sc2, .slice wa2 wn2 wc2, .bool r2.armed, .bool r2.down, .int .i64 r2.after, .int .u32 0, .slice none 0 0, .bool false⟩, .slice none 0 0, 0, rfl, ⟨rfl, rfl, rfl, rfl, rfl, rfl, rfl, rfl, rfl⟩, ⟨_, _, _, rfl⟩, Mod.ext HXF.out HMS.out (fun z hz => by omega), fun S hS => by cases hS⟩
end Go.Proofs.YtnjfioikpajhlaaGreat
