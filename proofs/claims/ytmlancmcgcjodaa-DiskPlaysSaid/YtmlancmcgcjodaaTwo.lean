/- Two disks, each apart from the other; a clone's contract in these words. -/
import Derived.Test.YtmlancmcgcjodaaHeld2
import Derived.Test.YtmlancmcgcjodaaDisk8
namespace Go.Proofs.Ytmlancmcgcjodaa
open Go.RowKit

structure Two (w0 w : World) (X : Nat → Prop) (p : Nat) (d : D.Dsk) (q : Nat) (c : D.Dsk) : Prop where
  inn : ∃ m wv n vv, DiskIn w p m wv d ∧ DiskIn w q n vv c ∧ (∀ k, FP p m wv k → ¬ X k) ∧ (∀ k, FP q n vv k → ¬ X k) ∧ ∀ k, FP p m wv k → ¬ FP q n vv k
  old : ∀ k, k < w0.heap.size → X k
  lt : ∀ k, X k → k < w.heap.size
  ext : Ext w0 w
section
variable {w0 w w1 : World} {X : Nat → Prop} {p q : Nat} {d c : D.Dsk}
theorem Two.symm (h : Two w0 w X p d q c) : Two w0 w X q c p d :=
  let ⟨m, wv, n, vv, h1, h2, h3, h4, h5⟩ := h.inn
  ⟨⟨n, vv, m, wv, h2, h1, h4, h3, fun k hk hk2 => h5 k hk2 hk⟩, h.old, h.lt, h.ext⟩
theorem Two.held (h : Two w0 w X p d q c) : Held w0 w X p d :=
  let ⟨m, wv, _, _, h1, _, h3, _, _⟩ := h.inn
  ⟨⟨m, wv, h1, h3⟩, h.old, h.lt, h.ext⟩
theorem Two.after_ext (h : Two w0 w X p d q c) (hx : Ext w w1) : Two w0 w1 X p d q c :=
  let ⟨m, wv, n, vv, h1, h2, h3, h4, h5⟩ := h.inn
  ⟨⟨m, wv, n, vv, h1.ext hx, h2.ext hx, h3, h4, h5⟩, h.old, fun k hk => Nat.lt_of_lt_of_le (h.lt k hk) hx.size, h.ext.trans hx⟩
theorem Two.all (h : Two w0 w X p d q c) (hx : Ext w w1) : Two w0 w1 (New X w w1) p d q c := by
  obtain ⟨m, wv, n, vv, h1, h2, h3, h4, h5⟩ := h.inn
  refine ⟨⟨m, wv, n, vv, h1.ext hx, h2.ext hx, fun k hk => ?_, fun k hk => ?_, h5⟩, fun k hk => .inl (h.old k hk), fun k hk => ?_, h.ext.trans hx⟩
  · rintro (hX | ⟨g1, _⟩)
    · exact h3 k hk hX
    · have := h1.lt k hk; omega
  · rintro (hX | ⟨g1, _⟩)
    · exact h4 k hk hX
    · have := h2.lt k hk; omega
  · rcases hk with hk | ⟨_, hk⟩
    · exact Nat.lt_of_lt_of_le (h.lt k hk) hx.size
    · exact hk
/-- A call on the first disk leaves the second. -/
theorem Two.first (h : Two w0 w X p d q c) : ∃ X', Held w0 w X' p d ∧ (∀ k, X k → X' k) ∧ ∀ w1 d', Held w0 w1 X' p d' → Keeps X' w w1 → Two w0 w1 X p d' q c := by
  obtain ⟨m, wv, n, vv, h1, h2, h3, h4, h5⟩ := h.inn
  refine ⟨fun k => X k ∨ FP q n vv k, ⟨⟨m, wv, h1, fun k hk => ?_⟩, fun k hk => .inl (h.old k hk), fun k hk => ?_, h.ext⟩, fun k hk => .inl hk, fun w1 d' hh hk => ?_⟩
  · rintro (hX | hF)
    · exact h3 k hk hX
    · exact h5 k hk hF
  · rcases hk with hk | hk
    · exact h.lt k hk
    · exact h2.lt k hk
  · obtain ⟨m', wv', g1, g2⟩ := hh.inn
    refine ⟨⟨m', wv', n, vv, g1, h2.mod hk (fun k hkf hn => hn (.inr hkf)), fun k hkf hX => g2 k hkf (.inl hX), h4, fun k hkf hX => g2 k hkf (.inr hX)⟩, h.old, fun k hkX => hh.lt k (.inl hkX), hh.ext⟩
/-- A clone. -/
theorem held_clone (h : Held w0 w X p d) (hw : d.wait.length ≤ 1073741824) :
    Calls Try.prog 22 #[.pointer (some ⟨p, 0, none⟩)] w fun e w' => ∃ q, e = .returned (.pointer (some ⟨q, 0, none⟩)) ∧ Two w0 w' X p d q d ∧ Ext w w' := by
  obtain ⟨m, wv, hd, hF⟩ := h.inn
  refine (disk_clone hd hw).mono ?_
  rintro e w1 ⟨q, n, vv, rfl, hd2, hge, hx⟩
  refine ⟨q, rfl, ⟨⟨m, wv, n, vv, hd.ext hx, hd2, hF, fun k hk hX => ?_, fun k hk hk2 => ?_⟩, h.old, fun k hk => Nat.lt_of_lt_of_le (h.lt k hk) hx.size, h.ext.trans hx⟩, hx⟩
  · have h1 := hge k hk
    have h2 := h.lt k hX
    omega
  · have h1 := hge k hk2
    have h2 := hd.lt k hk
    omega
end
end Go.Proofs.Ytmlancmcgcjodaa
