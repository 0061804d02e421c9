/- The document's disk: next, joined, Lay, Flush, Fuse, Cut, Restart. -/
import Derived.Test.YtmcmocakfhedfaaRef5a
namespace Go.Proofs.Ytmcmocakfhedfaa
open Go.RowKit

/-- The document's disk in memory: its rows lie in blocks of X. -/
structure RefAt (w : World) (X : Nat → Prop) (r : Ref4) (sv wv : Value) : Prop where
  safe : RowIn w sv r.safe
  wait : RowIn w wv r.wait
  sX : ∀ k, sv.ownBlock = some k → X k
  wX : ∀ k, wv.ownBlock = some k → X k
theorem RefAt.ext {w w' : World} {X : Nat → Prop} {r : Ref4} {sv wv : Value} (h : RefAt w X r sv wv) (hx : Ext w w') : RefAt w' X r sv wv := ⟨h.safe.ext hx, h.wait.ext hx, h.sX, h.wX⟩
theorem RefAt.more {w : World} {X Y : Nat → Prop} {r : Ref4} {sv wv : Value} (h : RefAt w X r sv wv) (hXY : ∀ k, X k → Y k) : RefAt w Y r sv wv := ⟨h.safe, h.wait, fun k hk => hXY k (h.sX k hk), fun k hk => hXY k (h.wX k hk)⟩
theorem RefAt.all {w w' : World} {X : Nat → Prop} {r : Ref4} {sv wv : Value} (h : RefAt w X r sv wv) (hx : Ext w w') : RefAt w' (New X w w') r sv wv := (h.ext hx).more (fun _ hk => .inl hk)
theorem RefAt.keeps {w w' : World} {X : Nat → Prop} {r : Ref4} {sv wv : Value} (h : RefAt w X r sv wv) (hk : Keeps X w w') : RefAt w' X r sv wv := ⟨hk.own h.safe h.sX, hk.own h.wait h.wX, h.sX, h.wX⟩

def R4.next (r : Ref4) : Ref4 × Bool :=
  if r.down then (r, false) else if r.armed && r.after == 0 then ({ r with down := true, armed := false }, false) else if r.armed then ({ r with after := wrap64 (r.after - 1) }, true) else (r, true)
theorem next_rows (r : Ref4) : (R4.next r).1.safe = r.safe ∧ (R4.next r).1.wait = r.wait ∧ (R4.next r).1.n = r.n := by
  unfold R4.next
  split
  · exact ⟨rfl, rfl, rfl⟩
  · split
    · exact ⟨rfl, rfl, rfl⟩
    · split <;> exact ⟨rfl, rfl, rfl⟩

theorem RowIn.any {w : World} {v : Value} {l : List (Int × List UInt8)} (h : RowIn w v l) : ∃ a n cap, v = .slice a n cap := by
  obtain ⟨a, cap, e⟩ := h.shape
  exact ⟨a, _, cap, e⟩
set_option maxRecDepth 100000 in
set_option maxHeartbeats 1600000 in
theorem ref_next (r : Ref4) (sv wv : Value) (w : World) (hs : ∃ a n cap, sv = .slice a n cap) (hw : ∃ a n cap, wv = .slice a n cap) :
    Calls Try.prog 52 #[rv r sv wv] w fun e w' => e = .returned (.tuple #[rv (R4.next r).1 sv wv, .bool (R4.next r).2]) ∧ Ext w w' := by
  obtain ⟨n, safe, wait, armed, down, after⟩ := r
  obtain ⟨sa, sn, sc, rfl⟩ := hs
  obtain ⟨wa, wn, wc, rfl⟩ := hw
  cases down
  · cases armed
    · have hr : R4.next ⟨n, safe, wait, false, false, after⟩ = (⟨n, safe, wait, false, false, after⟩, true) := rfl
      rw [hr]
      unfold rv
      simp only
      clear hr
      go_enter Try.func52, Try.ntmps52
      go_wp2
      refine bodyPost_ret (v := .tuple #[.agg #[.int .i64 n, .slice sa sn sc, .slice wa wn wc, .bool false, .bool false, .int .i64 after], .bool true]) (by simp [results, Try.results52, go_sem]) rfl ⟨rfl, (Ext.of_alloc w _).alloc _⟩
    · by_cases h0 : after = 0
      · subst h0
        have hr : R4.next ⟨n, safe, wait, true, false, 0⟩ = (⟨n, safe, wait, false, true, 0⟩, false) := rfl
        rw [hr]
        unfold rv
        simp only
        clear hr
        go_enter Try.func52, Try.ntmps52
        go_wp2
        refine bodyPost_ret (v := .tuple #[.agg #[.int .i64 n, .slice sa sn sc, .slice wa wn wc, .bool false, .bool true, .int .i64 0], .bool false]) (by simp [results, Try.results52, go_sem]) rfl ⟨rfl, (Ext.of_alloc w _).alloc _⟩
      · have hb : (after == 0) = false := beq_eq_false_iff_ne.2 h0
        have hr : R4.next ⟨n, safe, wait, true, false, after⟩ = (⟨n, safe, wait, true, false, wrap64 (after - 1)⟩, true) := by
          unfold R4.next
          simp [hb]
        rw [hr]
        unfold rv
        simp only
        clear hr
        go_enter Try.func52, Try.ntmps52
        go_wp2
        refine bodyPost_ret (v := .tuple #[.agg #[.int .i64 n, .slice sa sn sc, .slice wa wn wc, .bool true, .bool false, .int .i64 (wrap64 (after - 1))], .bool true]) (by simp [results, Try.results52, go_sem]) rfl ⟨rfl, (Ext.of_alloc w _).alloc _⟩
  · have hr : R4.next ⟨n, safe, wait, armed, true, after⟩ = (⟨n, safe, wait, armed, true, after⟩, false) := rfl
    rw [hr]
    unfold rv
    simp only
    clear hr
    go_enter Try.func52, Try.ntmps52
    go_wp2
    refine bodyPost_ret (v := .tuple #[.agg #[.int .i64 n, .slice sa sn sc, .slice wa wn wc, .bool armed, .bool true, .int .i64 after], .bool false]) (by simp [results, Try.results52, go_sem]) rfl ⟨rfl, (Ext.of_alloc w _).alloc _⟩

theorem info_w4 : ∃ i z, Try.prog.info? 107 = some i ∧ i.zero = some z ∧ i.size = 2 ∧ i.bytes = 24 ∧ z.cells.size = 2 := by
  have hi : (Try.prog.info? 107).map (fun i => (i.zero, i.size, i.bytes)) = some (some (.agg #[.int .i64 0, .string ⟨#[]⟩]), 2, 24) := by kernel_rfl
  obtain ⟨i, h1, h2, h3, h4⟩ := info_parts hi
  exact ⟨i, _, h1, h2, h3, h4, rfl⟩
theorem wc_one (l : List (Int × List UInt8)) : ∀ u ∈ l.flatMap wc, u.oneCell' = true := by
  intro u hu
  obtain ⟨x, _, hx⟩ := List.mem_flatMap.1 hu
  simp only [wc, List.mem_cons, List.not_mem_nil, or_false] at hx
  rcases hx with rfl | rfl <;> rfl
set_option maxRecDepth 100000 in
set_option maxHeartbeats 1600000 in
theorem ref_joined (va vb : Value) (a b : List (Int × List UInt8)) (w : World) (ha : RowIn w va a) (hb : RowIn w vb b) (hn : a.length + b.length ≤ 1000000) :
    Calls Try.prog 53 #[va, vb] w fun e w' => ∃ v, e = .returned v ∧ w'.ownsRow w.heap.size 107 2 v (a ++ b).length ((a ++ b).flatMap wc) ∧ Ext w w' := by
  obtain ⟨i0, z, hi0, hz0, hz1, hz2, hz3⟩ := info_w4
  have HA := Lib.hid ha
  have HB := Lib.hid hb
  clear ha hb
  go_enter Try.func53, Try.ntmps53
  go_wp2_with (first
    | ((with_reducible show wpList _ _ _ (⟨some 8, _, _, _, _, _⟩ :: _) _ _); refine wpl_append_row _ rfl _ _ 53 rfl w.heap.size 107 i0 z 2 24 Try.underlying53 hi0 hz0 hz1 hz2 hz3 (by omega) (.slice none 0 0) 0 [] (by rfl) (World.ownsRow_nil _ _ _ _) va a.length (a.flatMap wc) 0 (by rfl) HA.out (wc_one a) (by unfold maxLen; omega) (by omega) (Nat.le_refl _) ?_; intro v1 w1 hown1 hgrow1; have hx1 : Ext w w1 := (Ext.refl w).grown hgrow1 (fun k hk => by simp [Value.ownBlock] at hk); have HX1 := Lib.hid hx1; have HO1 := Lib.hid hown1; clear hx1 hown1 hgrow1)
    | ((with_reducible show wpList _ _ _ (⟨some 11, _, _, _, _, _⟩ :: _) _ _); refine wpl_append_row _ rfl _ _ 53 rfl w.heap.size 107 i0 z 2 24 Try.underlying53 hi0 hz0 hz1 hz2 hz3 (by omega) v1 (0 + a.length) ([] ++ a.flatMap wc) (by rfl) HO1.out vb b.length (b.flatMap wc) 0 (by rfl) (HX1.out.keptOwn HB.out) (wc_one b) (by unfold maxLen; omega) (by omega) HX1.out.size ?_; intro v2 w2 hown2 hgrow2; have hx2 : Ext w w2 := HX1.out.grown hgrow2 (fun k hk => (HO1.out.lt k hk).1); have HX2 := Lib.hid hx2; have HO2 := Lib.hid hown2; clear hx2 hown2 hgrow2)
    | fail)
  go_ret
  refine ⟨_, rfl, ?_, HX2.out⟩
  have h := HO2.out
  rw [List.nil_append, Nat.zero_add, ← List.flatMap_append, ← List.length_append] at h
  exact h

theorem box_facts {v : World} {b : Nat} {a0 a1 a2 a3 a4 a5 : Value} {e : TypeId} (h : v.heap[b]? = some (.cells #[a0, a1, a2, a3, a4, a5] e (0, 0))) :
    v.cell? ⟨b, 0, none⟩ = some a0 ∧ v.cell? ⟨b, 1, none⟩ = some a1 ∧ v.cell? ⟨b, 2, none⟩ = some a2 ∧ v.cell? ⟨b, 3, none⟩ = some a3 ∧ v.cell? ⟨b, 4, none⟩ = some a4 ∧ v.cell? ⟨b, 5, none⟩ = some a5 ∧
    v.frozen? ⟨b, 0, none⟩ = false ∧ v.frozen? ⟨b, 1, none⟩ = false ∧ v.frozen? ⟨b, 2, none⟩ = false ∧ v.frozen? ⟨b, 3, none⟩ = false ∧ v.frozen? ⟨b, 4, none⟩ = false ∧ v.frozen? ⟨b, 5, none⟩ = false := by
  have h2 : v.heap[b]? = some (.cells [a0, a1, a2, a3, a4, a5].toArray e (0, 0)) := h
  exact ⟨blk_cell h2 0, blk_cell h2 1, blk_cell h2 2, blk_cell h2 3, blk_cell h2 4, blk_cell h2 5, blk_free h2 0, blk_free h2 1, blk_free h2 2, blk_free h2 3, blk_free h2 4, blk_free h2 5⟩
/-- Two boxes that were made. -/
theorem two_boxes (w : World) (A B : Array Value) (e1 e2 : TypeId) {v : World} (hx : Ext ((w.alloc (.cells A e1)).alloc (.cells B e2)) v) :
    v.heap[w.heap.size]? = some (.cells A e1 (0, 0)) ∧ v.heap[w.heap.size + 1]? = some (.cells B e2 (0, 0)) := by
  have h1 := heap_alloc_new w (.cells A e1)
  have h2 := heap_alloc_new (w.alloc (.cells A e1)) (.cells B e2)
  rw [World.size_alloc] at h2
  have h3 : ((w.alloc (.cells A e1)).alloc (.cells B e2)).heap[w.heap.size]? = some (.cells A e1 (0, 0)) := by
    have := Below.block (B := (w.alloc (.cells A e1)).heap.size) (Ext.of_alloc (w.alloc (.cells A e1)) (.cells B e2)) w.heap.size (by simp)
    exact this.trans h1
  exact ⟨(Below.block (B := ((w.alloc (.cells A e1)).alloc (.cells B e2)).heap.size) hx _ (by rw [World.size_alloc, World.size_alloc]; omega)).trans h3, (Below.block (B := ((w.alloc (.cells A e1)).alloc (.cells B e2)).heap.size) hx _ (by rw [World.size_alloc, World.size_alloc]; omega)).trans h2⟩
theorem RefAt.rows {w : World} {X : Nat → Prop} {r r' : Ref4} {sv wv : Value} (h : RefAt w X r sv wv) (h1 : r'.safe = r.safe) (h2 : r'.wait = r.wait) : RefAt w X r' sv wv := ⟨by rw [h1]; exact h.safe, by rw [h2]; exact h.wait, h.sX, h.wX⟩
theorem both {A B : Prop} (hb : B) (ha : B → A) : A ∧ B := ⟨ha hb, hb⟩
theorem size_d4 : (Try.prog.info? 55).map (·.size) = some 6 := by kernel_rfl
theorem RowIn.keeps {w w' : World} {F : Nat → Prop} {v : Value} {l : List (Int × List UInt8)} (h : RowIn w v l) (hm : Mod F w w') (hv : ∀ k, v.ownBlock = some k → ¬ F k) : RowIn w' v l := ownsRow_mod h hm hv

def R4.flush (r : Ref4) : Ref4 × Int := if (R4.next r).2 then ({ (R4.next r).1 with safe := r.safe ++ r.wait, wait := [] }, 0) else ((R4.next r).1, 3)
def R4.lay (r : Ref4) (i : Int) (s : List UInt8) : Ref4 × Int :=
  if i < 0 ∨ r.n ≤ i then (r, 1) else if s.length ≠ 512 then (r, 2) else if r.down then (r, 3) else ({ (R4.next r).1 with wait := r.wait ++ [(i, s)] }, if (R4.next r).2 then 0 else 3)
def R4.fuse (r : Ref4) (a : Int) : Ref4 × Int := if a < 0 then (r, 1) else if r.down then (r, 3) else ({ r with armed := true, after := a }, 0)
def R4.cut (r : Ref4) : Ref4 := { r with down := true, armed := false }
def R4.restart (r : Ref4) (ks : List Bool) : Ref4 := ⟨r.n, r.safe ++ D.kept r.wait ks, [], false, false, 0⟩
/-- What a call leaves. -/
def RefOut (w w' : World) (X : Nat → Prop) (r' : Ref4) (c : Int) (e : Ending) : Prop := ∃ sv' wv', e = .returned (.tuple #[rv r' sv' wv', .int .i64 c]) ∧ RefAt w' (New X w w') r' sv' wv' ∧ Ext w w'
def RefOut1 (w w' : World) (X : Nat → Prop) (r' : Ref4) (e : Ending) : Prop := ∃ sv' wv', e = .returned (rv r' sv' wv') ∧ RefAt w' (New X w w') r' sv' wv' ∧ Ext w w'
theorem blk_so {w : World} {b : Nat} {o : Obj} (h : w.heap[b]? = some o) {p : Addr} (hp : b ≠ p.block) (u : Value) : (w.setCell p u).heap[b]? = some o := (Below.heap_setCell w p u b hp).trans h
theorem sizeX {w v : World} {o1 o2 : Obj} (h : Ext ((w.alloc o1).alloc o2) v) : w.heap.size + 1 < v.heap.size := by
  have := h.size
  rw [World.size_alloc, World.size_alloc] at this
  omega
set_option maxRecDepth 100000 in
set_option maxHeartbeats 3200000 in
theorem ref_flush (r : Ref4) (X : Nat → Prop) (sv wv : Value) (w : World) (h : RefAt w X r sv wv) (hn : r.safe.length + r.wait.length ≤ 1000000) :
    Calls Try.prog 30 #[rv r sv wv] w fun e w' => RefOut w w' X (R4.flush r).1 (R4.flush r).2 e := by
  obtain ⟨q1, q2, q3⟩ := next_rows r
  have hnx := fun w => ref_next r sv wv w h.safe.any h.wait.any
  have H := Lib.hid h
  obtain ⟨sa, sn, sc, hsv⟩ := h.safe.any
  obtain ⟨wa, wn, wc', hwv⟩ := h.wait.any
  subst hsv
  subst hwv
  clear h
  unfold R4.flush RefOut
  generalize R4.next r = nx at *
  obtain ⟨⟨n', s', w', ar', dn', af'⟩, ok⟩ := nx
  obtain ⟨n, safe, wait, armed, down, after⟩ := r
  simp only at q1 q2 q3 hn
  subst q1 q2 q3
  unfold rv at *
  simp only at hnx ⊢
  cases ok
  · simp only [if_neg, Bool.false_eq_true]
    go_enter Try.func30, Try.ntmps30
    go_wp2_with fail
    refine (hnx _).mono ?_
    rintro e w2 ⟨rfl, hx2⟩
    obtain ⟨hb1, hb2⟩ := two_boxes w _ _ _ _ hx2
    have HXW := Lib.hid (((Ext.of_alloc w _).alloc _).trans hx2)
    have HB1 := Lib.hid hb1
    have HB2 := Lib.hid hb2
    clear hb1 hb2 hx2
    go_wp2_with (first
      | ((with_reducible show wpList _ _ _ (⟨none, Op.store _ (Operand.tmp 1) _, _, _, _, _⟩ :: _) _ _); refine wpl_store_all _ rfl 55 _ _ rfl w.heap.size 55 [_, _, _, _, _, _] HB1.out rfl [.int .i64 n', .slice sa sn sc, .slice wa wn wc', .bool ar', .bool dn', .int .i64 af'] rfl rfl size_d4 (by simp [Value.oneCell']) ?_; intro w3 hbn hmn hszn; have HXw3 := Lib.hid (hmn.ext HXW.out (fun k e => by omega)); have HBw3 := Lib.hid hbn; have HMw3 := Lib.hid hmn; have HBR := Lib.hid (blk_mod HB2.out HMw3.out (fun e => by omega)); obtain ⟨c0, c1, c2, c3, c4, c5, f0, f1, f2, f3, f4, f5⟩ := box_facts HBw3.out; clear hbn hmn hszn)
      | ((with_reducible show wpList _ _ _ (⟨none, Op.store _ (Operand.tmp 2) _, _, _, _, _⟩ :: _) _ _); refine wpl_store_all _ rfl 55 _ _ rfl (w.heap.size + 1) 55 [_, _, _, _, _, _] HBR.out rfl [.int .i64 n', .slice sa sn sc, .slice wa wn wc', .bool ar', .bool dn', .int .i64 af'] rfl rfl size_d4 (by simp [Value.oneCell']) ?_; intro w4 hbn hmn hszn; have HXw4 := Lib.hid (hmn.ext HXw3.out (fun k e => by omega)); have HBw4 := Lib.hid hbn; have HMw4 := Lib.hid hmn; obtain ⟨d0, d1, d2, d3, d4, d5, g0, g1, g2, g3, g4, g5⟩ := box_facts HBw4.out; clear hbn hmn hszn)
      | fail)
    refine bodyPost_ret (v := .tuple #[.agg #[.int .i64 n', .slice sa sn sc, .slice wa wn wc', .bool ar', .bool dn', .int .i64 af'], .int .i64 3]) (by simp [results, Try.results30, go_sem, d0, d1, d2, d3, d4, d5]) rfl ⟨_, _, rfl, (H.out.all HXw4.out).rows rfl rfl, HXw4.out⟩
  · simp only [if_true]
    go_enter Try.func30, Try.ntmps30
    go_wp2_with fail
    refine (hnx _).mono ?_
    rintro e w2 ⟨rfl, hx2⟩
    obtain ⟨hb1, hb2⟩ := two_boxes w _ _ _ _ hx2
    have HXW := Lib.hid (((Ext.of_alloc w _).alloc _).trans hx2)
    have HB1 := Lib.hid hb1
    have HB2 := Lib.hid hb2
    clear hb1 hb2 hx2
    go_wp2_with (first
      | ((with_reducible show wpList _ _ _ (⟨none, Op.store _ (Operand.tmp 1) _, _, _, _, _⟩ :: _) _ _); refine wpl_store_all _ rfl 55 _ _ rfl w.heap.size 55 [_, _, _, _, _, _] HB1.out rfl [.int .i64 n', .slice sa sn sc, .slice wa wn wc', .bool ar', .bool dn', .int .i64 af'] rfl rfl size_d4 (by simp [Value.oneCell']) ?_; intro w3 hbn hmn hszn; have HXw3 := Lib.hid (hmn.ext HXW.out (fun k e => by omega)); have HBw3 := Lib.hid hbn; have HMw3 := Lib.hid hmn; have HBR := Lib.hid (blk_mod HB2.out HMw3.out (fun e => by omega)); obtain ⟨c0, c1, c2, c3, c4, c5, f0, f1, f2, f3, f4, f5⟩ := box_facts HBw3.out; clear hbn hmn hszn)
      | fail)
    refine (ref_joined _ _ s' w' _ (H.out.safe.ext HXw3.out) (H.out.wait.ext HXw3.out) hn).mono ?_
    rintro e w4 ⟨v, rfl, hown, hx4⟩
    have hrow : RowIn w4 v (s' ++ w') := ownsRow_base hown (fun k _ => Nat.zero_le k)
    have hvb : ∀ k, v.ownBlock = some k → w3.heap.size ≤ k ∧ k < w4.heap.size := fun k hk => hown.lt k hk
    have hb3 := blk_mod (F := fun _ => False) HBw3.out (Mod.of_ext hx4) (fun h => h)
    have hb4 := blk_mod (F := fun _ => False) HBR.out (Mod.of_ext hx4) (fun h => h)
    clear c0 c1 c2 c3 c4 c5 f0 f1 f2 f3 f4 f5
    obtain ⟨c0, c1, c2, c3, c4, c5, f0, f1, f2, f3, f4, f5⟩ := box_facts hb3
    obtain ⟨va, vn, vc, rfl⟩ := hrow.any
    have hlt3 : w.heap.size + 1 < w3.heap.size := blk_lt HBR.out
    have HROW := Lib.hid hrow
    have HVB := Lib.hid hvb
    have HX4 := Lib.hid (HXw3.out.trans hx4)
    have HLT := Lib.hid hlt3
    have HS3 := Lib.hid HXw3.out.size
    have HB4 := Lib.hid hb4
    clear hb3 hb4 hown hx4 hrow hvb hlt3 HXw3 HBw3 HMw3 HBR
    go_wp2_with (first
      | ((with_reducible show wpList _ _ _ (⟨none, Op.store _ (Operand.tmp 2) _, _, _, _, _⟩ :: _) _ _); refine wpl_store_all _ rfl 55 _ _ rfl (w.heap.size + 1) 55 [_, _, _, _, _, _] (blk_so (blk_so HB4.out (by show w.heap.size + 1 ≠ w.heap.size; omega) _) (by show w.heap.size + 1 ≠ w.heap.size; omega) _) rfl [.int .i64 n', .slice va vn vc, .slice none 0 0, .bool ar', .bool dn', .int .i64 af'] rfl rfl size_d4 (by simp [Value.oneCell']) ?_; intro w5 hbn hmn hszn; have HXw5 := Lib.hid (hmn.ext ((HX4.out.setCell (Nat.le_refl _) _).setCell (Nat.le_refl _) _) (fun k e => by omega)); have HBw5 := Lib.hid hbn; have HMw5 := Lib.hid hmn; have HROW5 := Lib.hid (((HROW.out.keeps (Mod.setCell (F := fun k => k = w.heap.size) w4 ⟨w.heap.size, 1, none⟩ (.slice va vn vc) rfl) (fun k hk e => by have h1 := HVB.out k hk; have h2 := HLT.out; omega)).keeps (Mod.setCell (F := fun k => k = w.heap.size) _ ⟨w.heap.size, 2, none⟩ (.slice none 0 0) rfl) (fun k hk e => by have h1 := HVB.out k hk; have h2 := HLT.out; omega)).keeps HMw5.out (fun k hk e => by have h1 := HVB.out k hk; have h2 := HLT.out; omega)); have hsz5 : w4.heap.size ≤ w5.heap.size := by { have h1 := HMw5.out.size; simpa using h1 }; obtain ⟨d0, d1, d2, d3, d4, d5, g0, g1, g2, g3, g4, g5⟩ := box_facts HBw5.out; clear hbn hmn hszn)
      | fail)
    have hS3 := HS3.out
    refine bodyPost_ret (v := .tuple #[.agg #[.int .i64 n', .slice va vn vc, .slice none 0 0, .bool ar', .bool dn', .int .i64 af'], .int .i64 0]) (by simp [results, Try.results30, go_sem, d0, d1, d2, d3, d4, d5]) rfl ⟨_, _, rfl, ⟨HROW5.out, RowIn.nil _, fun k hk => .inr ?_, fun k hk => ?_⟩, HXw5.out⟩
    · have h1 := HVB.out k hk
      exact ⟨by omega, by omega⟩
    · simp [Value.ownBlock] at hk

theorem RowIn.one (w : World) (i : Int) (s : List UInt8) : RowIn (w.alloc (.cells #[.int .i64 i, .string ⟨s.toArray⟩] 107)) (.slice (some ⟨w.heap.size, 0, none⟩) 1 1) [(i, s)] :=
  ⟨rfl, .inr ⟨w.heap.size, 1, _, rfl, Nat.zero_le _, heap_alloc_new w _, Nat.le_refl _, by simp [maxLen], rfl, rfl⟩⟩

set_option maxRecDepth 100000 in
set_option maxHeartbeats 3200000 in
theorem ref_lay (r : Ref4) (X : Nat → Prop) (sv wv : Value) (i : Int) (s : List UInt8) (w : World) (h : RefAt w X r sv wv) (hn : r.wait.length + 1 ≤ 1000000) (hsl : s.length ≤ 9223372036854775807) :
    Calls Try.prog 29 #[rv r sv wv, .int .i64 i, .string ⟨s.toArray⟩] w fun e w' => RefOut w w' X (R4.lay r i s).1 (R4.lay r i s).2 e := by
  obtain ⟨q1, q2, q3⟩ := next_rows r
  have hnx := fun w => ref_next r sv wv w h.safe.any h.wait.any
  have H := Lib.hid h
  obtain ⟨sa, sn, sc, hsv⟩ := h.safe.any
  obtain ⟨wa, wn, wc', hwv⟩ := h.wait.any
  subst hsv
  subst hwv
  clear h
  unfold R4.lay RefOut
  generalize R4.next r = nx at *
  obtain ⟨⟨n', s', w', ar', dn', af'⟩, ok⟩ := nx
  obtain ⟨n, safe, wait, armed, down, after⟩ := r
  simp only at q1 q2 q3 hn
  subst q1 q2 q3
  unfold rv at *
  simp only at hnx ⊢
  by_cases h1 : i < 0 ∨ n' ≤ i
  · simp only [if_pos h1]
    clear hnx
    by_cases h2 : i < 0
    · clear h1
      go_enter Try.func29, Try.ntmps29
      go_wp2
      refine bodyPost_ret (v := .tuple #[.agg #[.int .i64 n', .slice sa sn sc, .slice wa wn wc', .bool armed, .bool down, .int .i64 after], .int .i64 1]) (by simp [results, Try.results29, go_sem]) rfl ⟨_, _, rfl, both ((Ext.of_alloc w _).alloc _) (fun hx => (H.out.all hx).rows rfl rfl)⟩
    · have h3 : n' ≤ i := by omega
      clear h1
      go_enter Try.func29, Try.ntmps29
      go_wp2
      refine bodyPost_ret (v := .tuple #[.agg #[.int .i64 n', .slice sa sn sc, .slice wa wn wc', .bool armed, .bool down, .int .i64 after], .int .i64 1]) (by simp [results, Try.results29, go_sem]) rfl ⟨_, _, rfl, both ((Ext.of_alloc w _).alloc _) (fun hx => (H.out.all hx).rows rfl rfl)⟩
  · simp only [if_neg h1]
    have h2 : ¬ i < 0 := by omega
    have h3 : ¬ n' ≤ i := by omega
    clear h1
    by_cases h4 : s.length ≠ 512
    · simp only [if_pos h4]
      have hl : ((s.length : Int) != 512) = true := by rw [bne_iff_ne]; omega
      clear hnx h4
      go_enter Try.func29, Try.ntmps29
      go_wp2
      refine bodyPost_ret (v := .tuple #[.agg #[.int .i64 n', .slice sa sn sc, .slice wa wn wc', .bool armed, .bool down, .int .i64 after], .int .i64 2]) (by simp [results, Try.results29, go_sem]) rfl ⟨_, _, rfl, both ((Ext.of_alloc w _).alloc _) (fun hx => (H.out.all hx).rows rfl rfl)⟩
    · simp only [if_neg h4]
      have hl : ((s.length : Int) != 512) = false := by rw [bne_eq_false_iff_eq]; omega
      clear h4
      cases down
      · simp only [if_neg, Bool.false_eq_true]
        go_enter Try.func29, Try.ntmps29
        go_wp2_with fail
        refine (hnx _).mono ?_
        rintro e w2 ⟨rfl, hx2⟩
        obtain ⟨hb1, hb2⟩ := two_boxes w _ _ _ _ hx2
        have HXW := Lib.hid (((Ext.of_alloc w _).alloc _).trans hx2)
        have HB1 := Lib.hid hb1
        have HB2 := Lib.hid hb2
        clear hb1 hb2 hx2
        go_wp2_with (first
          | ((with_reducible show wpList _ _ _ (⟨none, Op.store _ (Operand.tmp 3) _, _, _, _, _⟩ :: _) _ _); refine wpl_store_all _ rfl 55 _ _ rfl w.heap.size 55 [_, _, _, _, _, _] HB1.out rfl [.int .i64 n', .slice sa sn sc, .slice wa wn wc', .bool ar', .bool dn', .int .i64 af'] rfl rfl size_d4 (by simp [Value.oneCell']) ?_; intro w3 hbn hmn hszn; have HXw3 := Lib.hid (hmn.ext HXW.out (fun k e => by omega)); have HBw3 := Lib.hid hbn; have HMw3 := Lib.hid hmn; have HBR := Lib.hid (blk_mod HB2.out HMw3.out (fun e => by omega)); obtain ⟨c0, c1, c2, c3, c4, c5, f0, f1, f2, f3, f4, f5⟩ := box_facts HBw3.out; clear hbn hmn hszn)
          | fail)
        have hx3 := HXw3.out.alloc (.cells #[.int .i64 i, .string ⟨s.toArray⟩] 107)
        refine (ref_joined _ _ w' [(i, s)] _ (H.out.wait.ext hx3) (RowIn.one w3 i s) hn).mono ?_
        rintro e w4 ⟨v, rfl, hown, hx4⟩
        have hx34 := (Ext.of_alloc w3 (.cells #[.int .i64 i, .string ⟨s.toArray⟩] 107)).trans hx4
        have hrow : RowIn w4 v (w' ++ [(i, s)]) := ownsRow_base hown (fun k _ => Nat.zero_le k)
        have hvb : ∀ k, v.ownBlock = some k → w3.heap.size ≤ k ∧ k < w4.heap.size := fun k hk => by
          have h1 := hown.lt k hk
          have h2 := (Ext.of_alloc w3 (.cells #[.int .i64 i, .string ⟨s.toArray⟩] 107)).size
          omega
        have hb3 := blk_mod (F := fun _ => False) HBw3.out (Mod.of_ext hx34) (fun h => h)
        have hb4 := blk_mod (F := fun _ => False) HBR.out (Mod.of_ext hx34) (fun h => h)
        clear c0 c1 c2 c3 c4 c5 f0 f1 f2 f3 f4 f5
        obtain ⟨c0, c1, c2, c3, c4, c5, f0, f1, f2, f3, f4, f5⟩ := box_facts hb3
        obtain ⟨va, vn, vc, rfl⟩ := hrow.any
        have hlt3 : w.heap.size + 1 < w3.heap.size := blk_lt HBR.out
        have HROW := Lib.hid hrow
        have HVB := Lib.hid hvb
        have HX4 := Lib.hid (HXw3.out.trans hx34)
        have HLT := Lib.hid hlt3
        have HS3 := Lib.hid HXw3.out.size
        have HB4 := Lib.hid hb4
        clear hb3 hb4 hown hx4 hrow hvb hlt3 hx3 hx34 HXw3 HBw3 HMw3 HBR
        cases ok
        · simp only [if_neg, Bool.false_eq_true]
          go_wp2_with (first
            | ((with_reducible show wpList _ _ _ (⟨none, Op.store _ (Operand.tmp 6) _, _, _, _, _⟩ :: _) _ _); refine wpl_store_all _ rfl 55 _ _ rfl (w.heap.size + 1) 55 [_, _, _, _, _, _] (blk_so HB4.out (by show w.heap.size + 1 ≠ w.heap.size; omega) _) rfl [.int .i64 n', .slice sa sn sc, .slice va vn vc, .bool ar', .bool dn', .int .i64 af'] rfl rfl size_d4 (by simp [Value.oneCell']) ?_; intro w5 hbn hmn hszn; have HXw5 := Lib.hid (hmn.ext (HX4.out.setCell (Nat.le_refl _) _) (fun k e => by omega)); have HBw5 := Lib.hid hbn; have HMw5 := Lib.hid hmn; have HROW5 := Lib.hid ((HROW.out.keeps (Mod.setCell (F := fun k => k = w.heap.size) w4 ⟨w.heap.size, 2, none⟩ (.slice va vn vc) rfl) (fun k hk e => by have h1 := HVB.out k hk; have h2 := HLT.out; omega)).keeps HMw5.out (fun k hk e => by have h1 := HVB.out k hk; have h2 := HLT.out; omega)); have hsz5 : w4.heap.size ≤ w5.heap.size := by { have h1 := HMw5.out.size; simpa using h1 }; obtain ⟨d0, d1, d2, d3, d4, d5, g0, g1, g2, g3, g4, g5⟩ := box_facts HBw5.out; clear hbn hmn hszn)
            | fail)
          have hS3 := HS3.out
          refine bodyPost_ret (v := .tuple #[.agg #[.int .i64 n', .slice sa sn sc, .slice va vn vc, .bool ar', .bool dn', .int .i64 af'], .int .i64 3]) (by simp [results, Try.results29, go_sem, d0, d1, d2, d3, d4, d5]) rfl ⟨_, _, rfl, ⟨H.out.safe.ext HXw5.out, HROW5.out, fun k hk => .inl (H.out.sX k hk), fun k hk => .inr ?_⟩, HXw5.out⟩
          have h1 := HVB.out k hk
          exact ⟨by omega, by omega⟩
        · simp only [if_true]
          go_wp2_with (first
            | ((with_reducible show wpList _ _ _ (⟨none, Op.store _ (Operand.tmp 6) _, _, _, _, _⟩ :: _) _ _); refine wpl_store_all _ rfl 55 _ _ rfl (w.heap.size + 1) 55 [_, _, _, _, _, _] (blk_so HB4.out (by show w.heap.size + 1 ≠ w.heap.size; omega) _) rfl [.int .i64 n', .slice sa sn sc, .slice va vn vc, .bool ar', .bool dn', .int .i64 af'] rfl rfl size_d4 (by simp [Value.oneCell']) ?_; intro w5 hbn hmn hszn; have HXw5 := Lib.hid (hmn.ext (HX4.out.setCell (Nat.le_refl _) _) (fun k e => by omega)); have HBw5 := Lib.hid hbn; have HMw5 := Lib.hid hmn; have HROW5 := Lib.hid ((HROW.out.keeps (Mod.setCell (F := fun k => k = w.heap.size) w4 ⟨w.heap.size, 2, none⟩ (.slice va vn vc) rfl) (fun k hk e => by have h1 := HVB.out k hk; have h2 := HLT.out; omega)).keeps HMw5.out (fun k hk e => by have h1 := HVB.out k hk; have h2 := HLT.out; omega)); have hsz5 : w4.heap.size ≤ w5.heap.size := by { have h1 := HMw5.out.size; simpa using h1 }; obtain ⟨d0, d1, d2, d3, d4, d5, g0, g1, g2, g3, g4, g5⟩ := box_facts HBw5.out; clear hbn hmn hszn)
            | fail)
          have hS3 := HS3.out
          refine bodyPost_ret (v := .tuple #[.agg #[.int .i64 n', .slice sa sn sc, .slice va vn vc, .bool ar', .bool dn', .int .i64 af'], .int .i64 0]) (by simp [results, Try.results29, go_sem, d0, d1, d2, d3, d4, d5]) rfl ⟨_, _, rfl, ⟨H.out.safe.ext HXw5.out, HROW5.out, fun k hk => .inl (H.out.sX k hk), fun k hk => .inr ?_⟩, HXw5.out⟩
          have h1 := HVB.out k hk
          exact ⟨by omega, by omega⟩
      · simp only [if_true]
        clear hnx
        go_enter Try.func29, Try.ntmps29
        go_wp2
        refine bodyPost_ret (v := .tuple #[.agg #[.int .i64 n', .slice sa sn sc, .slice wa wn wc', .bool armed, .bool true, .int .i64 after], .int .i64 3]) (by simp [results, Try.results29, go_sem]) rfl ⟨_, _, rfl, both ((Ext.of_alloc w _).alloc _) (fun hx => (H.out.all hx).rows rfl rfl)⟩

set_option maxRecDepth 100000 in
set_option maxHeartbeats 3200000 in
theorem ref_fuse (r : Ref4) (X : Nat → Prop) (sv wv : Value) (a : Int) (w : World) (h : RefAt w X r sv wv) :
    Calls Try.prog 40 #[rv r sv wv, .int .i64 a] w fun e w' => RefOut w w' X (R4.fuse r a).1 (R4.fuse r a).2 e := by
  have H := Lib.hid h
  obtain ⟨sa, sn, sc, hsv⟩ := h.safe.any
  obtain ⟨wa, wn, wc', hwv⟩ := h.wait.any
  subst hsv
  subst hwv
  clear h
  unfold R4.fuse RefOut
  obtain ⟨n, safe, wait, armed, down, after⟩ := r
  unfold rv
  simp only
  by_cases h1 : a < 0
  · simp only [if_pos h1]
    go_enter Try.func40, Try.ntmps40
    go_wp2
    refine bodyPost_ret (v := .tuple #[.agg #[.int .i64 n, .slice sa sn sc, .slice wa wn wc', .bool armed, .bool down, .int .i64 after], .int .i64 1]) (by simp [results, Try.results40, go_sem]) rfl ⟨_, _, rfl, both ((Ext.of_alloc w _).alloc _) (fun hx => (H.out.all hx).rows rfl rfl)⟩
  · simp only [if_neg h1]
    cases down
    · simp only [if_neg, Bool.false_eq_true]
      go_enter Try.func40, Try.ntmps40
      go_wp2
      refine bodyPost_ret (v := .tuple #[.agg #[.int .i64 n, .slice sa sn sc, .slice wa wn wc', .bool true, .bool false, .int .i64 a], .int .i64 0]) (by simp [results, Try.results40, go_sem]) rfl ⟨_, _, rfl, both ((Ext.of_alloc w _).alloc _) (fun hx => (H.out.all hx).rows rfl rfl)⟩
    · simp only [if_true]
      go_enter Try.func40, Try.ntmps40
      go_wp2
      refine bodyPost_ret (v := .tuple #[.agg #[.int .i64 n, .slice sa sn sc, .slice wa wn wc', .bool armed, .bool true, .int .i64 after], .int .i64 3]) (by simp [results, Try.results40, go_sem]) rfl ⟨_, _, rfl, both ((Ext.of_alloc w _).alloc _) (fun hx => (H.out.all hx).rows rfl rfl)⟩

end Go.Proofs.Ytmcmocakfhedfaa
