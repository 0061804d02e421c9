import Derived.Test.YtnjfioikpajhlaaGreatMWalB
import Derived.Test.YtnjfioikpajhlaaGreatMBase
import Derived.Deep.AppendLies
set_option maxRecDepth 100000
set_option maxHeartbeats 64000000
/- wal: a log in memory. -/
namespace Go.Proofs.YtnjfioikpajhlaaGreat
open Go.RowKit
structure RowsO (w : World) (base : Nat) (v : Value) (vs : List Value) (ls : List (List UInt8)) : Prop where
 row : w.ownsRow base 56 1 v ls.length vs
 len : vs.length = ls.length
 each : ∀ i (h : i < ls.length), ∃ u, vs[i]? = some u /\ w.ownsRow base 5 1 u ls[i].length (ls[i].map byteVal)
theorem RowsO.nil (w : World) (base : Nat) : RowsO w base (.slice none 0 0) [] [] := ⟨World.ownsRow_nil _ _ _ _, rfl, fun _ h => absurd h (Nat.not_lt_zero _)⟩
theorem RowsO.mem {w : World} {base : Nat} {v : Value} {vs : List Value} {ls : List (List UInt8)} (h : RowsO w base v vs ls) {u : Value} (hu : u ∈ vs) : ∃ l : List UInt8, w.ownsRow base 5 1 u l.length (l.map byteVal) := by
 obtain ⟨i, hi, rfl⟩ := List.getElem_of_mem hu
 obtain ⟨u, h1, h2⟩ := h.each i (by rw [<- h.len]; exact hi)
 rw [List.getElem?_eq_getElem hi] at h1
 obtain rfl := Option.some.inj h1
 exact ⟨_, h2⟩
theorem own_at {w : World} {base : Nat} {e : TypeId} {size : Nat} {v : Value} {n : Nat} {xs : List Value} (h : w.ownsRow base e size v n xs) {k : Nat} (hk : v.ownBlock = some k) : ∃ cs fr, w.heap[k]? = some (.cells cs e fr) := by
 rcases h.2 with ⟨rfl, _⟩ | ⟨g, cap, cur, rfl, _, hh, _⟩
 ·simp [Value.ownBlock] at hk
 ·have : g = k := by simpa [Value.ownBlock] using hk
  subst this
  exact ⟨_, _, hh⟩
theorem RowsO.apart {w : World} {base : Nat} {v : Value} {vs : List Value} {ls : List (List UInt8)} (h : RowsO w base v vs ls) {u : Value} (hu : u ∈ vs) {k : Nat} (hk : u.ownBlock = some k) : v.ownBlock ≠ some k := by
 intro e
 obtain ⟨l, ho⟩ := h.mem hu
 obtain ⟨_, _, h1⟩ := own_at ho hk
 obtain ⟨_, _, h2⟩ := own_at h.row e
 rw [h1] at h2
 have h3 : (5 : Nat) = 56 := by injection (Option.some.inj h2)
 exact absurd h3 (by decide)
theorem RowsO.mod {F : Nat -> Prop} {w w' : World} {base : Nat} {v : Value} {vs : List Value} {ls : List (List UInt8)} (h : RowsO w base v vs ls) (hm : Mod F w w') (h1 : ∀ k, v.ownBlock = some k -> ¬ F k) (h2 : ∀ u ∈ vs, ∀ k, u.ownBlock = some k -> ¬ F k) : RowsO w' base v vs ls :=
 ⟨ownsRow_mod h.row hm h1, h.len, fun i hi => let ⟨u, a, b⟩ := h.each i hi; ⟨u, a, ownsRow_mod b hm (h2 u (List.mem_of_getElem? a))⟩⟩
theorem RowsO.ext {w w' : World} {base : Nat} {v : Value} {vs : List Value} {ls : List (List UInt8)} (h : RowsO w base v vs ls) (hx : Ext w w') : RowsO w' base v vs ls :=
 h.mod (F := fun _ => False) (Mod.of_ext hx) (fun _ _ h => h) (fun _ _ _ _ h => h)
theorem RowsO.rows {w : World} {base : Nat} {X : Nat -> Prop} {v : Value} {vs : List Value} {ls : List (List UInt8)} (h : RowsO w base v vs ls) (hX : ∀ k, base <= k -> k < w.heap.size -> X k) : RowsX w X v ls := by
 refine ⟨vs, Reads.of_own h.row ?_, h.len, fun k hk => hX k (h.row.lt k hk).1 (h.row.lt k hk).2, fun i hi => ?_⟩
 ·intro u hu
  obtain ⟨l, ho⟩ := h.mem hu
  obtain ⟨a, cap, rfl⟩ := (Bs.of_own ho).shape
  rfl
 ·obtain ⟨u, a, b⟩ := h.each i hi
  exact ⟨u, a, Bs.of_own b, fun k hk => hX k (b.lt k hk).1 (b.lt k hk).2⟩
theorem RowsO.push {w1 w3 w4 : World} {base base' : Nat} {v nv u : Value} {vs : List Value} {ls : List (List UInt8)} {b : List UInt8} (h : RowsO w1 base v vs ls) (hx : Ext w1 w3) (hb : base <= base') (hb' : w1.heap.size <= base')
 (hu : w3.ownsRow base' 5 1 u b.length (b.map byteVal)) (hown : w4.ownsRow base 56 1 nv (ls.length + 1) (vs ++ [u])) (hg : w3.grownBy w4 v.ownBlock) : RowsO w4 base nv (vs ++ [u]) (ls ++ [b]) := by
 have hm : Mod (fun k => v.ownBlock = some k) w3 w4 := Mod.grown hg (fun k e _ => e)
 refine ⟨by rw [List.length_append]; exact hown, by rw [List.length_append, List.length_append, h.len]; rfl, fun i hi => ?_⟩
 rw [List.length_append] at hi
 rcases Nat.lt_or_ge i ls.length with h1 | h1
 ·obtain ⟨u', a, c⟩ := h.each i h1
  refine ⟨u', ?_, ?_⟩
  ·rw [List.getElem?_append_left (by rw [h.len]; exact h1)]; exact a
  ·rw [List.getElem_append_left h1]
   exact ownsRow_mod (hx.keptOwn c) hm (fun k hk e => h.apart (List.mem_of_getElem? a) hk e)
 ·obtain rfl : i = ls.length := by simp at hi; omega
  refine ⟨u, ?_, ?_⟩
  ·rw [List.getElem?_append_right (by rw [h.len]; exact Nat.le_refl _), h.len, Nat.sub_self]; rfl
  ·have : (ls ++ [b])[ls.length] = b := by simp
   rw [this]
   refine ownsRow_mod (ownsRow_base5 hu hb) hm (fun k hk e => ?_)
   have h2 := (hu.lt k hk).1
   have h3 := (h.row.lt k e).2
   omega
structure LogAt (w : World) (base q p gen used : Nat) (lv : Value) (vs : List Value) (ls : List (List UInt8)) (cl : Bool) : Prop where
 blk : w.heap[q]? = some (.cells [.pointer (some ⟨p, 0, none⟩), .int .u32 (gen : Int), .int .i64 (used : Int), lv, .bool cl].toArray 138 (0, 0))
 qb : base <= q
 rows : RowsO w base lv vs ls
def LF (q : Nat) (lv : Value) (vs : List Value) : Nat -> Prop := fun k => k = q ∨ lv.ownBlock = some k ∨ ∃ u ∈ vs, u.ownBlock = some k
section
variable {w w' : World} {base q p gen used : Nat} {lv : Value} {vs : List Value} {ls : List (List UInt8)} {cl : Bool}
theorem LogAt.not_row (h : LogAt w base q p gen used lv vs ls cl) : lv.ownBlock ≠ some q := by
 intro e
 obtain ⟨_, _, h1⟩ := own_at h.rows.row e
 rw [h.blk] at h1
 have h3 : (138 : Nat) = 56 := by injection (Option.some.inj h1)
 exact absurd h3 (by decide)
theorem LogAt.not_rec (h : LogAt w base q p gen used lv vs ls cl) {u : Value} (hu : u ∈ vs) : u.ownBlock ≠ some q := by
 intro e
 obtain ⟨l, ho⟩ := h.rows.mem hu
 obtain ⟨_, _, h1⟩ := own_at ho e
 rw [h.blk] at h1
 have h3 : (138 : Nat) = 5 := by injection (Option.some.inj h1)
 exact absurd h3 (by decide)
theorem LogAt.lt (h : LogAt w base q p gen used lv vs ls cl) {k : Nat} (hk : LF q lv vs k) : base <= k /\ k < w.heap.size := by
 rcases hk with rfl | hk | ⟨u, hu, hk⟩
 ·exact ⟨h.qb, blk_lt h.blk⟩
 ·exact h.rows.row.lt k hk
 ·obtain ⟨l, ho⟩ := h.rows.mem hu
  exact ho.lt k hk
theorem LogAt.mod {F : Nat -> Prop} (h : LogAt w base q p gen used lv vs ls cl) (hm : Mod F w w') (hF : ∀ k, LF q lv vs k -> ¬ F k) : LogAt w' base q p gen used lv vs ls cl :=
 ⟨blk_mod h.blk hm (hF q (.inl rfl)), h.qb, h.rows.mod hm (fun k hk => hF k (.inr (.inl hk))) (fun u hu k hk => hF k (.inr (.inr ⟨u, hu, hk⟩)))⟩
theorem LogAt.ext (h : LogAt w base q p gen used lv vs ls cl) (hx : Ext w w') : LogAt w' base q p gen used lv vs ls cl := h.mod (F := fun _ => False) (Mod.of_ext hx) (fun _ _ h => h)
theorem LogAt.c0 (h : LogAt w base q p gen used lv vs ls cl) : w.cell? ⟨q, 0, none⟩ = some (.pointer (some ⟨p, 0, none⟩)) := (blk_cell h.blk 0).trans rfl
theorem LogAt.c1 (h : LogAt w base q p gen used lv vs ls cl) : w.cell? ⟨q, 1, none⟩ = some (.int .u32 (gen : Int)) := (blk_cell h.blk 1).trans rfl
theorem LogAt.c2 (h : LogAt w base q p gen used lv vs ls cl) : w.cell? ⟨q, 2, none⟩ = some (.int .i64 (used : Int)) := (blk_cell h.blk 2).trans rfl
theorem LogAt.c3 (h : LogAt w base q p gen used lv vs ls cl) : w.cell? ⟨q, 3, none⟩ = some lv := (blk_cell h.blk 3).trans rfl
theorem LogAt.c4 (h : LogAt w base q p gen used lv vs ls cl) : w.cell? ⟨q, 4, none⟩ = some (.bool cl) := (blk_cell h.blk 4).trans rfl
theorem LogAt.fr (h : LogAt w base q p gen used lv vs ls cl) (j : Nat) : w.frozen? ⟨q, j, none⟩ = false := blk_free h.blk j
theorem LogAt.rows_set (h : LogAt w base q p gen used lv vs ls cl) (j : Nat) (u : Value) : RowsO (w.setCell ⟨q, j, none⟩ u) base lv vs ls :=
 h.rows.mod (F := fun k => k = q) (Mod.setCell w _ u rfl) (fun k hk e => h.not_row (by rw [hk, e])) (fun x hx k hk e => h.not_rec hx (by rw [hk, e]))
theorem LogAt.set1 (h : LogAt w base q p gen used lv vs ls cl) (g : Nat) : LogAt (w.setCell ⟨q, 1, none⟩ (.int .u32 (g : Int))) base q p g used lv vs ls cl := ⟨blk_set h.blk 1 _, h.qb, h.rows_set 1 _⟩
theorem LogAt.set2 (h : LogAt w base q p gen used lv vs ls cl) (g : Nat) : LogAt (w.setCell ⟨q, 2, none⟩ (.int .i64 (g : Int))) base q p gen g lv vs ls cl := ⟨blk_set h.blk 2 _, h.qb, h.rows_set 2 _⟩
theorem LogAt.set3 (h : LogAt w base q p gen used lv vs ls cl) : LogAt (w.setCell ⟨q, 3, none⟩ (.slice none 0 0)) base q p gen used (.slice none 0 0) [] [] cl := ⟨blk_set h.blk 3 _, h.qb, RowsO.nil _ _⟩
theorem LogAt.set4 (h : LogAt w base q p gen used lv vs ls cl) (c : Bool) : LogAt (w.setCell ⟨q, 4, none⟩ (.bool c)) base q p gen used lv vs ls c := ⟨blk_set h.blk 4 _, h.qb, h.rows_set 4 _⟩
theorem LogAt.push {w3 w4 : World} {base' : Nat} {nv u : Value} {b : List UInt8} (h : LogAt w base q p gen used lv vs ls cl) (hx : Ext w w3) (hb : base <= base') (hb' : w.heap.size <= base')
 (hu : w3.ownsRow base' 5 1 u b.length (b.map byteVal)) (hown : w4.ownsRow base 56 1 nv (ls.length + 1) (vs ++ [u])) (hg : w3.grownBy w4 lv.ownBlock) (hnv : ∀ k, nv.ownBlock = some k -> lv.ownBlock = some k ∨ w.heap.size <= k) :
 w4.cell? ⟨q, 3, none⟩ = some lv /\ w4.frozen? ⟨q, 3, none⟩ = false /\ LogAt (w4.setCell ⟨q, 3, none⟩ nv) base q p gen used nv (vs ++ [u]) (ls ++ [b]) cl /\ Mod (LF q lv vs) w (w4.setCell ⟨q, 3, none⟩ nv) /\ (∀ k, LF q nv (vs ++ [u]) k -> LF q lv vs k ∨ w.heap.size <= k) := by
 have hr := h.rows.push hx hb hb' hu hown hg
 have hm : Mod (fun k => lv.ownBlock = some k) w3 w4 := Mod.grown hg (fun k e _ => e)
 have hb4 : w4.heap[q]? = some _ := blk_mod (h.ext hx).blk hm h.not_row
 have hnq : nv.ownBlock ≠ some q := by
  intro e
  rcases hnv q e with h1 | h1
  ·exact h.not_row h1
  ·have := blk_lt h.blk; omega
 have huq : u.ownBlock ≠ some q := by
  intro e
  have := (hu.lt q e).1
  have := blk_lt h.blk; omega
 refine ⟨(blk_cell hb4 3).trans rfl, blk_free hb4 3, ⟨blk_set hb4 3 nv, h.qb, ?_⟩, ?_, fun k hk => ?_⟩
 ·refine hr.mod (F := fun k => k = q) (Mod.setCell w4 _ _ rfl) (fun k hk e => hnq (by rw [hk, e])) (fun x hx k hk e => ?_)
  rcases List.mem_append.1 hx with hx | hx
  ·exact h.not_rec hx (by rw [hk, e])
  ·obtain rfl := List.mem_singleton.1 hx
   exact huq (by rw [hk, e])
 ·exact ((Mod.of_ext hx).trans (hm.mono (fun k hk => .inr (.inl hk))) (fun _ _ h => h)).trans (Mod.setCell (F := LF q lv vs) w4 ⟨q, 3, none⟩ _ (.inl rfl)) (fun _ _ h => h)
 ·rcases hk with hk | hk | ⟨x, hx, hk⟩
  ·exact .inl (.inl hk)
  ·rcases hnv k hk with h1 | h1
   ·exact .inl (.inr (.inl h1))
   ·exact .inr h1
  ·rcases List.mem_append.1 hx with hx | hx
   ·exact .inl (.inr (.inr ⟨x, hx, hk⟩))
   ·obtain rfl := List.mem_singleton.1 hx
    have := (hu.lt k hk).1
    exact .inr (by omega)
end
structure LogY (w0 w : World) (X Y : Nat -> Prop) (p q : Nat) (d : D.Dsk) (gen used : Nat) (lv : Value) (vs : List Value) (ls : List (List UInt8)) (cl : Bool) : Prop where
 held : Held w0 w Y p d
 sub : ∀ k, X k -> Y k
 at_ : LogAt w w0.heap.size q p gen used lv vs ls cl
 lf : ∀ k, LF q lv vs k -> Y k /\ ¬ X k
 old : ∀ k, k < w0.heap.size -> X k
section
variable {w0 w w' : World} {X Y : Nat -> Prop} {q p gen used : Nat} {d : D.Dsk} {lv : Value} {vs : List Value} {ls : List (List UInt8)} {cl : Bool}
theorem LogY.disk {d' : D.Dsk} (h : LogY w0 w X Y p q d gen used lv vs ls cl) (hs : Step w0 w w' Y p d') : LogY w0 w' X Y p q d' gen used lv vs ls cl /\ Keeps X w w' :=
 ⟨⟨hs.1, h.sub, h.at_.mod hs.2 (fun k hk hx => hx (h.lf k hk).1), h.lf, h.old⟩, hs.2.less h.sub⟩
theorem LogY.ext (h : LogY w0 w X Y p q d gen used lv vs ls cl) (hx : Ext w w') : LogY w0 w' X Y p q d gen used lv vs ls cl := ⟨h.held.after_ext hx, h.sub, h.at_.ext hx, h.lf, h.old⟩
theorem LogY.all (h : LogY w0 w X Y p q d gen used lv vs ls cl) (hx : Ext w w') : LogY w0 w' (New X w w') (New Y w w') p q d gen used lv vs ls cl :=
 ⟨h.held.all hx, fun k hk => hk.imp (h.sub k) id, h.at_.ext hx, fun k hk => ⟨.inl (h.lf k hk).1, fun hx => by
  rcases hx with hx | hx
  ·exact (h.lf k hk).2 hx
  ·have := (h.at_.lt hk).2; omega⟩, fun k hk => .inl (h.old k hk)⟩
theorem LogY.less {X' : Nat -> Prop} (h : LogY w0 w X Y p q d gen used lv vs ls cl) (hX : ∀ k, X' k -> X k) (ho : ∀ k, k < w0.heap.size -> X' k) : LogY w0 w X' Y p q d gen used lv vs ls cl :=
 ⟨h.held, fun k hk => h.sub k (hX k hk), h.at_, fun k hk => ⟨(h.lf k hk).1, fun hx => (h.lf k hk).2 (hX k hx)⟩, ho⟩
theorem Held.mod_all {F : Nat -> Prop} (h : Held w0 w Y p d) (hm : Mod F w w') (hF : ∀ k, F k -> Y k /\ w0.heap.size <= k) : Held w0 w' (New Y w w') p d := by
 obtain ⟨m, wv, hd, hFP⟩ := h.inn
 refine ⟨⟨m, wv, hd.mod hm (fun k hk e => hFP k hk (hF k e).1), fun k hk => ?_⟩, fun k hk => .inl (h.old k hk), fun k hk => ?_, hm.ext h.ext (fun k e => (hF k e).2)⟩
 ·rintro (hX | ⟨h1, _⟩)
  ·exact hFP k hk hX
  ·have := hd.lt k hk; omega
 ·rcases hk with hk | ⟨_, hk⟩
  ·exact Nat.lt_of_lt_of_le (h.lt k hk) hm.size
  ·exact hk
theorem LogY.re {gen' used' : Nat} {lv' : Value} {vs' : List Value} {ls' : List (List UInt8)} {cl' : Bool} (h : LogY w0 w X Y p q d gen used lv vs ls cl) (hm : Mod (LF q lv vs) w w') (hL : LogAt w' w0.heap.size q p gen' used' lv' vs' ls' cl')
 (hLF : ∀ k, LF q lv' vs' k -> LF q lv vs k ∨ w.heap.size <= k) : LogY w0 w' X (New Y w w') p q d gen' used' lv' vs' ls' cl' /\ Keeps X w w' := by
 refine ⟨⟨h.held.mod_all hm (fun k hk => ⟨(h.lf k hk).1, (h.at_.lt hk).1⟩), fun k hk => .inl (h.sub k hk), hL, fun k hk => ?_, h.old⟩, hm.mono (fun k hk hx => (h.lf k hk).2 hx)⟩
 rcases hLF k hk with h1 | h1
 ·exact ⟨.inl (h.lf k h1).1, (h.lf k h1).2⟩
 ·refine ⟨.inr ⟨h1, (hL.lt hk).2⟩, fun hx => ?_⟩
  have := h.held.lt k (h.sub k hx)
  omega
theorem LF.set (q : Nat) (lv : Value) (vs : List Value) (w : World) (j : Nat) (u : Value) : Mod (LF q lv vs) w (w.setCell ⟨q, j, none⟩ u) := Mod.setCell w _ u (.inl rfl)
theorem LF.nil (q : Nat) (lv : Value) (vs : List Value) (w : World) : ∀ k, LF q (.slice none 0 0) [] k -> LF q lv vs k ∨ w.heap.size <= k := by
 rintro k (h | h | ⟨_, h, _⟩)
 ·exact .inl (.inl h)
 ·simp [Value.ownBlock] at h
 ·cases h
end
end Go.Proofs.YtnjfioikpajhlaaGreat
