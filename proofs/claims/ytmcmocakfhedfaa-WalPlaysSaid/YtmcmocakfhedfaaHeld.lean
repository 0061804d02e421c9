/- A disk of the walk's own: where it lies is left open; whatever lies in the blocks of X is apart from it. The methods' contracts in these words. -/
import Derived.Test.YtmcmocakfhedfaaDisk
import Derived.Test.YtmcmocakfhedfaaDisk2
import Derived.Test.YtmcmocakfhedfaaDisk3
import Derived.Test.YtmcmocakfhedfaaDisk4
import Derived.Test.YtmcmocakfhedfaaDisk5
import Derived.Test.YtmcmocakfhedfaaDisk6
namespace Go.Proofs.Ytmcmocakfhedfaa
open Go.RowKit

/-- A disk d at block p, apart from the blocks X, and from all that was there in w0. -/
structure Held (w0 w : World) (X : Nat → Prop) (p : Nat) (d : D.Dsk) : Prop where
  inn : ∃ m wv, DiskIn w p m wv d ∧ ∀ k, FP p m wv k → ¬ X k
  old : ∀ k, k < w0.heap.size → X k
  lt : ∀ k, X k → k < w.heap.size
  ext : Ext w0 w
/-- Nothing of X has turned. -/
def Keeps (X : Nat → Prop) (w w' : World) : Prop := Mod (fun k => ¬ X k) w w'
theorem Keeps.less {X Y : Nat → Prop} {w w' : World} (h : Keeps Y w w') (hXY : ∀ k, X k → Y k) : Keeps X w w' := Mod.mono h (fun k hk hx => hk (hXY k hx))
theorem Keeps.trans {X : Nat → Prop} {a b c : World} (h : Keeps X a b) (k : Keeps X b c) : Keeps X a c := Mod.trans h k (fun _ _ h => h)
theorem Keeps.of_ext {X : Nat → Prop} {w w' : World} (h : Ext w w') : Keeps X w w' := Mod.of_ext h
theorem Keeps.refl (X : Nat → Prop) (w : World) : Keeps X w w := Mod.refl _ _
theorem Keeps.bs {X : Nat → Prop} {w w' : World} (hk : Keeps X w w') {v : Value} {l : List UInt8} (h : Bs w v l) (hv : ∀ k, v.ownBlock = some k → X k) : Bs w' v l := Reads.mod h hk (fun k e hx => hx (hv k e))
theorem Keeps.reads {X : Nat → Prop} {w w' : World} (hk : Keeps X w w') {v : Value} {l : List Value} (h : Reads w v l) (hv : ∀ k, v.ownBlock = some k → X k) : Reads w' v l := Reads.mod h hk (fun k e hx => hx (hv k e))
theorem Keeps.own {X : Nat → Prop} {w w' : World} (hk : Keeps X w w') {base : Nat} {e : TypeId} {size : Nat} {v : Value} {n : Nat} {xs : List Value} (h : w.ownsRow base e size v n xs) (hv : ∀ k, v.ownBlock = some k → X k) : w'.ownsRow base e size v n xs := ownsRow_mod h hk (fun k e hx => hx (hv k e))
theorem Keeps.cell {X : Nat → Prop} {w w' : World} (hk : Keeps X w w') {p : Addr} {v : Value} (h : w.cell? p = some v) (hp : X p.block) : w'.cell? p = some v := Mod.cell hk h (fun hx => hx hp)

section
variable {w0 w w1 : World} {X : Nat → Prop} {p : Nat} {d : D.Dsk}
theorem Held.toExt (h : Held w0 w X p d) : Ext w0 w := h.ext
theorem Held.okd (h : Held w0 w X p d) : D.Ok d := let ⟨_, _, hd, _⟩ := h.inn; hd.ok
theorem Held.after_ext (h : Held w0 w X p d) (hx : Ext w w1) : Held w0 w1 X p d :=
  let ⟨m, wv, hd, hF⟩ := h.inn
  ⟨⟨m, wv, hd.ext hx, hF⟩, h.old, fun k hk => Nat.lt_of_lt_of_le (h.lt k hk) hx.size, h.ext.trans hx⟩
/-- All that is new is apart, too. -/
def New (X : Nat → Prop) (w w1 : World) : Nat → Prop := fun k => X k ∨ (w.heap.size ≤ k ∧ k < w1.heap.size)
theorem Held.all (h : Held w0 w X p d) (hx : Ext w w1) : Held w0 w1 (New X w w1) p d := by
  obtain ⟨m, wv, hd, hF⟩ := h.inn
  refine ⟨⟨m, wv, hd.ext hx, fun k hk => ?_⟩, fun k hk => .inl (h.old k hk), fun k hk => ?_, h.ext.trans hx⟩
  · rintro (hX | ⟨h1, _⟩)
    · exact hF k hk hX
    · have := hd.lt k hk; omega
  · rcases hk with hk | ⟨_, hk⟩
    · exact Nat.lt_of_lt_of_le (h.lt k hk) hx.size
    · exact hk
theorem Held.less {Y : Nat → Prop} (h : Held w0 w Y p d) (hXY : ∀ k, X k → Y k) (ho : ∀ k, k < w0.heap.size → X k) : Held w0 w X p d :=
  let ⟨m, wv, hd, hF⟩ := h.inn
  ⟨⟨m, wv, hd, fun k hk hx => hF k hk (hXY k hx)⟩, ho, fun k hk => h.lt k (hXY k hk), h.ext⟩
/-- What a call leaves. -/
def Step (w0 w w' : World) (X : Nat → Prop) (p : Nat) (d : D.Dsk) : Prop := Held w0 w' X p d ∧ Keeps X w w'
theorem Held.wrote (h : Held w0 w X p d) {m : Nat} {wv : Value} (hF : ∀ k, FP p m wv k → ¬ X k) {w' : World} {d' : D.Dsk} (hw : Wrote w w' p m wv d') : Step w0 w w' X p d' := by
  obtain ⟨wv', hd', hm, hwv⟩ := hw
  refine ⟨⟨⟨m, wv', hd', fun k hk hX => ?_⟩, h.old, fun k hk => Nat.lt_of_lt_of_le (h.lt k hk) hm.size, ?_⟩, hm.mono hF⟩
  · rcases hk with hk | hk | hk
    · exact hF k (.inl hk) hX
    · exact hF k (.inr (.inl hk)) hX
    · rcases hwv k hk with h2 | h2
      · exact hF k (.inr (.inr h2)) hX
      · have := h.lt k hX; omega
  · refine Mod.ext h.ext hm (fun k hk => ?_)
    rcases Nat.lt_or_ge k w0.heap.size with h2 | h2
    · exact absurd (h.old k h2) (hF k hk)
    · exact h2
theorem Step.less {Y : Nat → Prop} {w' : World} (h : Step w0 w w' Y p d) (hXY : ∀ k, X k → Y k) (ho : ∀ k, k < w0.heap.size → X k) : Step w0 w w' X p d := ⟨h.1.less hXY ho, Keeps.less h.2 hXY⟩

theorem held_new (n : Int) (w : World) (h1 : 1 ≤ n) (h2 : n ≤ 4096) :
    Calls Try.prog 27 #[.int .i64 n] w fun e w' => e = .returned (.tuple #[.pointer (some ⟨w.heap.size + 1, 0, none⟩), .int .i64 0]) ∧ Held w w' (fun k => k < w.heap.size) (w.heap.size + 1) (D.fresh n) := by
  refine (disk_new n w h1 h2).mono ?_
  rintro e w1 ⟨rfl, hd, hx⟩
  refine ⟨rfl, ⟨_, _, hd, fun k hk => ?_⟩, fun k hk => hk, fun k hk => Nat.lt_of_lt_of_le hk hx.size, hx⟩
  rcases hk with rfl | rfl | hk
  · omega
  · omega
  · simp [Value.ownBlock] at hk
theorem held_size (h : Held w0 w X p d) : Calls Try.prog 44 #[.pointer (some ⟨p, 0, none⟩)] w fun e w' => e = .returned (.int .i64 d.n) ∧ w = w' := let ⟨_, _, hd, _⟩ := h.inn; disk_size hd
theorem held_down (h : Held w0 w X p d) : Calls Try.prog 45 #[.pointer (some ⟨p, 0, none⟩)] w fun e w' => e = .returned (.bool d.down) ∧ w = w' := let ⟨_, _, hd, _⟩ := h.inn; disk_down hd
theorem held_waiting (h : Held w0 w X p d) : Calls Try.prog 79 #[.pointer (some ⟨p, 0, none⟩)] w fun e w' => e = .returned (.int .i64 (d.wait.length : Int)) ∧ w = w' := let ⟨_, _, hd, _⟩ := h.inn; disk_waiting hd
def D.cut (d : D.Dsk) : D.Dsk := { d with down := true, armed := false }
theorem held_cut (h : Held w0 w X p d) : Calls Try.prog 35 #[.pointer (some ⟨p, 0, none⟩)] w fun e w' => e = .returned (.tuple #[]) ∧ Step w0 w w' X p (D.cut d) := by
  obtain ⟨m, wv, hd, hF⟩ := h.inn
  refine (disk_cut hd).mono ?_
  rintro e w1 ⟨rfl, h1, h2⟩
  exact ⟨rfl, h.wrote hF ⟨wv, h1, h2, fun k hk => .inl hk⟩⟩
theorem held_fuse (h : Held w0 w X p d) (a : Int) (ha : a ≤ 9223372036854775807) :
    Calls Try.prog 33 #[.pointer (some ⟨p, 0, none⟩), .int .i64 a] w fun e w' => e = .returned (.int .i64 (D.fuseE d a)) ∧ Step w0 w w' X p (D.fuse d a) := by
  obtain ⟨m, wv, hd, hF⟩ := h.inn
  refine (disk_fuse hd a ha).mono ?_
  rintro e w1 ⟨rfl, h1, h2⟩
  exact ⟨rfl, h.wrote hF ⟨wv, h1, h2, fun k hk => .inl hk⟩⟩
theorem held_flush (h : Held w0 w X p d) : Calls Try.prog 26 #[.pointer (some ⟨p, 0, none⟩)] w fun e w' => e = .returned (.int .i64 (D.flushE d)) ∧ Step w0 w w' X p (D.flush d) := by
  obtain ⟨m, wv, hd, hF⟩ := h.inn
  refine (disk_flush hd).mono ?_
  rintro e w1 ⟨rfl, h1⟩
  exact ⟨rfl, h.wrote hF h1⟩
theorem held_restart_X (h : Held w0 w X p d) (kv : Value) (ks : List Bool) (hks : Reads w kv (ks.map Value.bool)) (hX : ks = [] ∨ ∀ k, kv.ownBlock = some k → X k) :
    Calls Try.prog 36 #[.pointer (some ⟨p, 0, none⟩), kv] w fun e w' => e = .returned (.tuple #[]) ∧ Step w0 w w' X p (D.restart d ks) := by
  obtain ⟨m, wv, hd, hF⟩ := h.inn
  refine (disk_restart hd kv ks hks (hX.imp id (fun hX k hk hf => hF k hf (hX k hk)))).mono ?_
  rintro e w1 ⟨rfl, h1⟩
  exact ⟨rfl, h.wrote hF h1⟩
theorem held_restart (h : Held w0 w X p d) (hx : Ext w w1) (kv : Value) (ks : List Bool) (hks : Reads w1 kv (ks.map Value.bool)) (hX : ks = [] ∨ ∀ k, kv.ownBlock = some k → X k ∨ (w.heap.size ≤ k ∧ k < w1.heap.size)) :
    Calls Try.prog 36 #[.pointer (some ⟨p, 0, none⟩), kv] w1 fun e w' => e = .returned (.tuple #[]) ∧ Step w0 w1 w' X p (D.restart d ks) :=
  (held_restart_X (h.all hx) kv ks hks hX).mono (fun _ _ hh => ⟨hh.1, hh.2.less (fun _ hk => .inl hk) h.old⟩)
theorem D.write_not {d : D.Dsk} {i : Int} {s : List UInt8} (h : ¬ (i < 0 ∨ d.n ≤ i ∨ s.length ≠ 512 ∨ d.down = true)) : D.write d i s = { D.goes d with wait := d.wait ++ [(i, s)] } ∧ D.writeE d i s = if D.done d then 0 else 3 := by
  have h1 : ¬ (i < 0 ∨ d.n ≤ i) := fun h' => h (by rcases h' with h' | h' <;> simp [h'])
  have h2 : ¬ s.length ≠ 512 := fun h' => h (by simp [h'])
  have h3 : ¬ d.down = true := fun h' => h (by simp [h'])
  unfold D.write D.writeE
  rw [if_neg h1, if_neg h2, if_neg h3, if_neg h1, if_neg h2, if_neg h3]
  exact ⟨rfl, rfl⟩
theorem held_write_X (h : Held w0 w X p d) (i : Int) (v : Value) (s : List UInt8) (hs : Bs w v s) (hX : ∀ k, v.ownBlock = some k → X k) (hw : d.wait.length ≤ 1073741824) :
    Calls Try.prog 25 #[.pointer (some ⟨p, 0, none⟩), .int .i64 i, v] w fun e w' => e = .returned (.int .i64 (D.writeE d i s)) ∧ Step w0 w w' X p (D.write d i s) := by
  obtain ⟨m, wv, hd, hF⟩ := h.inn
  by_cases hbad : i < 0 ∨ d.n ≤ i ∨ s.length ≠ 512 ∨ d.down = true
  · refine (disk_write_bad hd i v s hs hbad).mono ?_
    rintro e w1 ⟨rfl, h1, rfl⟩
    rw [h1]
    exact ⟨rfl, h, Keeps.refl _ _⟩
  · obtain ⟨e1, e2⟩ := D.write_not hbad
    have hl : s.length = 512 := by rcases Nat.decEq s.length 512 with h2 | h2; exact absurd (.inr (.inr (.inl h2))) hbad; exact h2
    rcases hs.open with ⟨a, cap, rfl, rfl, _⟩ | ⟨b, off, cap, rfl, hp, hcap, _, _, hc⟩
    · simp at hl
    · rw [e1, e2]
      refine (disk_write_ok hd i b off cap s hcap hc (fun hb => hF b hb (hX b rfl)) (by omega) (by omega) hl (by cases hdn : d.down; rfl; exact absurd (.inr (.inr (.inr hdn))) hbad) hw).mono ?_
      rintro e w1 ⟨rfl, h1⟩
      exact ⟨rfl, h.wrote hF h1⟩
theorem held_write (h : Held w0 w X p d) (hx : Ext w w1) (i : Int) (v : Value) (s : List UInt8) (hs : Bs w1 v s) (hX : ∀ k, v.ownBlock = some k → X k ∨ (w.heap.size ≤ k ∧ k < w1.heap.size)) (hw : d.wait.length ≤ 1073741824) :
    Calls Try.prog 25 #[.pointer (some ⟨p, 0, none⟩), .int .i64 i, v] w1 fun e w' => e = .returned (.int .i64 (D.writeE d i s)) ∧ Step w0 w1 w' X p (D.write d i s) :=
  (held_write_X (h.all hx) i v s hs hX hw).mono (fun _ _ hh => ⟨hh.1, hh.2.less (fun _ hk => .inl hk) h.old⟩)

/-- Read, by the document. -/
def D.readE (d : D.Dsk) (i : Int) : Int := if i < 0 ∨ d.n ≤ i then 1 else if d.down then 3 else 0
def D.readB (d : D.Dsk) (i : Int) : List UInt8 := if i < 0 ∨ d.n ≤ i then [] else if d.down then [] else D.sector d i
/-- What is read: bytes in new memory. -/
def Red (w w' : World) (d : D.Dsk) (i : Int) (e : Ending) : Prop := ∃ v, e = .returned (.tuple #[v, .int .i64 (D.readE d i)]) ∧ w'.ownsRow w.heap.size 98 1 v (D.readB d i).length ((D.readB d i).map byteVal) ∧ Ext w w'
theorem held_read (h : Held w0 w X p d) (i : Int) : Calls Try.prog 24 #[.pointer (some ⟨p, 0, none⟩), .int .i64 i] w fun e w' => Red w w' d i e := by
  obtain ⟨m, wv, hd, hF⟩ := h.inn
  by_cases h1 : i < 0 ∨ d.n ≤ i
  · refine (disk_read_bad hd i (by omega)).mono ?_
    rintro e w1 ⟨rfl, rfl⟩
    refine ⟨.slice none 0 0, ?_, ?_, Ext.refl _⟩
    · unfold D.readE; rw [if_pos h1, if_pos h1]
    · unfold D.readB; rw [if_pos h1]; exact World.ownsRow_nil _ _ _ _
  · by_cases h2 : d.down = true
    · refine (disk_read_bad hd i (.inr (.inr h2))).mono ?_
      rintro e w1 ⟨rfl, rfl⟩
      refine ⟨.slice none 0 0, ?_, ?_, Ext.refl _⟩
      · unfold D.readE; rw [if_neg h1, if_neg h1, if_pos h2]
      · unfold D.readB; rw [if_neg h1, if_pos h2]; exact World.ownsRow_nil _ _ _ _
    · refine (disk_read hd i (by omega) (by omega) (by simpa using h2)).mono ?_
      rintro e w1 ⟨v, rfl, ho, hx⟩
      refine ⟨v, ?_, ?_, hx⟩
      · unfold D.readE; rw [if_neg h1, if_neg h2]
      · unfold D.readB; rw [if_neg h1, if_neg h2, sector_len hd.ok]; exact ho
end
end Go.Proofs.Ytmcmocakfhedfaa
