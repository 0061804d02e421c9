/- jetwaylaw04.play: what is carried through its walk. -/
import Derived.Test.YtmlancmcgcjodaaTells
import Derived.Test.YtmlancmcgcjodaaTwo
namespace Go.Proofs.Ytmlancmcgcjodaa
open Go.RowKit

theorem box5_facts {v : World} {b : Nat} {a0 a1 a2 a3 a4 : Value} {e : TypeId} (h : v.heap[b]? = some (.cells #[a0, a1, a2, a3, a4] e (0, 0))) :
    v.cell? ⟨b, 0, none⟩ = some a0 ∧ v.cell? ⟨b, 1, none⟩ = some a1 ∧ v.cell? ⟨b, 2, none⟩ = some a2 ∧ v.cell? ⟨b, 3, none⟩ = some a3 ∧ v.cell? ⟨b, 4, none⟩ = some a4 := by
  have h2 : v.heap[b]? = some (.cells [a0, a1, a2, a3, a4].toArray e (0, 0)) := h
  exact ⟨blk_cell h2 0, blk_cell h2 1, blk_cell h2 2, blk_cell h2 3, blk_cell h2 4⟩
theorem three_boxes (w : World) (A B C : Array Value) (e1 e2 e3 : TypeId) {v : World} (hx : Ext (((w.alloc (.cells A e1)).alloc (.cells B e2)).alloc (.cells C e3)) v) :
    v.heap[w.heap.size]? = some (.cells A e1 (0, 0)) ∧ v.heap[w.heap.size + 1]? = some (.cells B e2 (0, 0)) ∧ v.heap[w.heap.size + 2]? = some (.cells C e3 (0, 0)) := by
  obtain ⟨h1, h2⟩ := two_boxes w A B e1 e2 ((Ext.of_alloc _ (.cells C e3)).trans hx)
  have h3 := one_box ((w.alloc (.cells A e1)).alloc (.cells B e2)) C e3 hx
  rw [World.size_alloc, World.size_alloc] at h3
  exact ⟨h1, h2, h3⟩
/-- A row of writes lies in no box. -/
theorem RowIn.ne {w : World} {v : Value} {l : List (Int × List UInt8)} (h : RowIn w v l) {b : Nat} {A : Array Value} (hb : w.heap[b]? = some (.cells A 51 (0, 0))) : ∀ k, v.ownBlock = some k → ¬ k = b := by
  rintro k hk rfl
  rcases h.2 with ⟨rfl, _⟩ | ⟨g, cap, cur, rfl, _, hh, _⟩
  · simp [Value.ownBlock] at hk
  · have : g = k := by simpa [Value.ownBlock] using hk
    subst this
    rw [hh] at hb
    have h3 : (81 : Nat) = 51 := by injection (Option.some.inj hb)
    exact absurd h3 (by decide)
theorem RefAt.store {w w' : World} {X : Nat → Prop} {r : Ref4} {sv wv : Value} (h : RefAt w X r sv wv) {b : Nat} {A : Array Value} (hb : w.heap[b]? = some (.cells A 51 (0, 0))) (hm : Mod (fun k => k = b) w w') : RefAt w' X r sv wv :=
  ⟨h.safe.keeps hm (h.safe.ne hb), h.wait.keeps hm (h.wait.ne hb), h.sX, h.wX⟩
/-- A store into a block apart leaves the disk. -/
theorem Held.mod_in {w0 w w' : World} {X : Nat → Prop} {p : Nat} {d : D.Dsk} (h : Held w0 w X p d) {b : Nat} (hX : X b) (h0 : w0.heap.size ≤ b) (hm : Mod (fun k => k = b) w w') : Held w0 w' X p d := by
  obtain ⟨m, wv, hd, hF⟩ := h.inn
  exact ⟨⟨m, wv, hd.mod hm (fun k hk e => hF k hk (by rw [e]; exact hX)), hF⟩, h.old, fun k hk => Nat.lt_of_lt_of_le (h.lt k hk) hm.size, hm.ext h.ext (fun k e => by omega)⟩

/-- The state of 'play': the disk, the three boxes (the document's disk M, the call A, the result Z), what was there kept. -/
structure PS (w0 wS v : World) (X Y : Nat → Prop) (b4 b5 b7 : Nat) (p : Nat) (d : D.Dsk) (M A Z : Array Value) : Prop where
  held : Held w0 v Y p d
  box4 : v.heap[b4]? = some (.cells M 51 (0, 0))
  box5 : v.heap[b5]? = some (.cells A 56 (0, 0))
  box7 : v.heap[b7]? = some (.cells Z 51 (0, 0))
  y4 : Y b4
  y5 : Y b5
  y7 : Y b7
  n45 : b4 ≠ b5
  n47 : b4 ≠ b7
  n57 : b5 ≠ b7
  h4 : w0.heap.size ≤ b4
  h7 : w0.heap.size ≤ b7
  x4 : ¬ X b4
  x7 : ¬ X b7
  sub : ∀ k, X k → Y k
  kp : Keeps X wS v
section
variable {w0 wS v v' : World} {X Y : Nat → Prop} {b4 b5 b7 p : Nat} {d d' : D.Dsk} {M M' A Z : Array Value}
theorem PS.start {w0 wS : World} {X : Nat → Prop} {p : Nat} {d : D.Dsk} (h : Held w0 wS X p d) (M A Z : Array Value) :
    PS w0 wS (((wS.alloc (.cells M 51)).alloc (.cells A 56)).alloc (.cells Z 51)) X (New X wS (((wS.alloc (.cells M 51)).alloc (.cells A 56)).alloc (.cells Z 51))) wS.heap.size (wS.heap.size + 1) (wS.heap.size + 1 + 1) p d M A Z := by
  have hx : Ext wS (((wS.alloc (.cells M 51)).alloc (.cells A 56)).alloc (.cells Z 51)) := ((Ext.of_alloc wS _).alloc _).alloc _
  have hs : (((wS.alloc (.cells M 51)).alloc (.cells A 56)).alloc (.cells Z 51)).heap.size = wS.heap.size + 3 := by rw [World.size_alloc, World.size_alloc, World.size_alloc]
  obtain ⟨h1, h2, h3⟩ := three_boxes wS M A Z 51 56 51 (Ext.refl _)
  have he := h.ext.size
  exact ⟨h.all hx, h1, h2, h3, .inr ⟨by omega, by omega⟩, .inr ⟨by omega, by omega⟩, .inr ⟨by omega, by omega⟩, by omega, by omega, by omega, he, by omega, fun hx => by have := h.lt _ hx; omega, fun hx => by have := h.lt _ hx; omega, fun k hk => .inl hk, Keeps.of_ext hx⟩
theorem PS.ext (h : PS w0 wS v X Y b4 b5 b7 p d M A Z) (hx : Ext v v') : PS w0 wS v' X (New Y v v') b4 b5 b7 p d M A Z :=
  ⟨h.held.all hx, blk_mod (F := fun _ => False) h.box4 (Mod.of_ext hx) (fun h => h), blk_mod (F := fun _ => False) h.box5 (Mod.of_ext hx) (fun h => h), blk_mod (F := fun _ => False) h.box7 (Mod.of_ext hx) (fun h => h), .inl h.y4, .inl h.y5, .inl h.y7, h.n45, h.n47, h.n57, h.h4, h.h7, h.x4, h.x7, fun k hk => .inl (h.sub k hk), h.kp.trans (Keeps.of_ext hx)⟩
theorem PS.ext0 (h : PS w0 wS v X Y b4 b5 b7 p d M A Z) (hx : Ext v v') : PS w0 wS v' X Y b4 b5 b7 p d M A Z :=
  ⟨h.held.after_ext hx, blk_mod (F := fun _ => False) h.box4 (Mod.of_ext hx) (fun h => h), blk_mod (F := fun _ => False) h.box5 (Mod.of_ext hx) (fun h => h), blk_mod (F := fun _ => False) h.box7 (Mod.of_ext hx) (fun h => h), h.y4, h.y5, h.y7, h.n45, h.n47, h.n57, h.h4, h.h7, h.x4, h.x7, h.sub, h.kp.trans (Keeps.of_ext hx)⟩
theorem PS.step (h : PS w0 wS v X Y b4 b5 b7 p d M A Z) (hs : Step w0 v v' Y p d') : PS w0 wS v' X Y b4 b5 b7 p d' M A Z :=
  ⟨hs.1, blk_mod h.box4 hs.2 (fun hn => hn h.y4), blk_mod h.box5 hs.2 (fun hn => hn h.y5), blk_mod h.box7 hs.2 (fun hn => hn h.y7), h.y4, h.y5, h.y7, h.n45, h.n47, h.n57, h.h4, h.h7, h.x4, h.x7, h.sub, h.kp.trans (hs.2.less h.sub)⟩
theorem PS.store (h : PS w0 wS v X Y b4 b5 b7 p d M A Z) (hm : Mod (fun k => k = b4) v v') (hb : v'.heap[b4]? = some (.cells M' 51 (0, 0))) : PS w0 wS v' X Y b4 b5 b7 p d M' A Z :=
  ⟨h.held.mod_in h.y4 h.h4 hm, hb, blk_mod h.box5 hm (fun e => h.n45 e.symm), blk_mod h.box7 hm (fun e => h.n47 e.symm), h.y4, h.y5, h.y7, h.n45, h.n47, h.n57, h.h4, h.h7, h.x4, h.x7, h.sub, h.kp.trans (hm.mono (fun k e hx => h.x4 (e ▸ hx)))⟩
/-- The end: the result is laid. -/
structure PE (w0 wS v : World) (X : Nat → Prop) (k0 : Nat) (p : Nat) (d : D.Dsk) (r : Ref4) (sv wv : Value) : Prop where
  got : ∃ Y : Nat → Prop, Held w0 v Y p d ∧ RefAt v Y r sv wv ∧ ∀ k, X k → Y k
  rel : Rel d r
  len : R4.len r ≤ k0 + 1
  kp : Keeps X wS v
theorem PS.ends {r : Ref4} {sv wv : Value} {k0 : Nat} (h : PS w0 wS v X Y b4 b5 b7 p d M A Z) (hr : RefAt v Y r sv wv) (hrel : Rel d r) (hl : R4.len r ≤ k0 + 1) (hm : Mod (fun k => k = b7) v v') : PE w0 wS v' X k0 p d r sv wv :=
  ⟨⟨Y, h.held.mod_in h.y7 h.h7 hm, hr.store h.box7 hm, h.sub⟩, hrel, hl, h.kp.trans (hm.mono (fun k e hx => h.x7 (e ▸ hx)))⟩
end
end Go.Proofs.Ytmlancmcgcjodaa
