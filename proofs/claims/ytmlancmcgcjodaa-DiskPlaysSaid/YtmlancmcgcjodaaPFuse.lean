/- DiskFuse, in plain words: what a disk with a fuse answers. -/
import Derived.Test.YtmlancmcgcjodaaHeld2
namespace Go.Proofs.Ytmlancmcgcjodaa
open Go.RowKit

theorem D.over_append (f : Int → Option (List UInt8)) (a b : List (Int × List UInt8)) : D.over f (a ++ b) = D.over (D.over f a) b := by unfold D.over; rw [List.foldl_append]
theorem D.over_all {R : List UInt8 → Prop} (l : List (Int × List UInt8)) : ∀ (f : Int → Option (List UInt8)), (∀ k s, f k = some s → R s) → (∀ x ∈ l, R x.2) → ∀ k s, D.over f l k = some s → R s := by
  induction l with
  | nil => intro f h _ k s; exact h k s
  | cons x r ih =>
    intro f h hl k s hs
    refine ih (fun j => if j = x.1 then some x.2 else f j) (fun k s hs => ?_) (fun y hy => hl y (by simp [hy])) k s hs
    split at hs
    · obtain rfl := Option.some.inj hs; exact hl x (by simp)
    · exact h k s hs
theorem D.kept_all : ∀ (l : List (Int × List UInt8)), D.kept l (List.replicate l.length true) = l
  | [] => rfl
  | x :: r => by rw [List.length_cons, List.replicate_succ, D.kept, if_pos rfl, D.kept_all r]
theorem D.kept_no : ∀ (l : List (Int × List UInt8)), D.kept l (List.replicate l.length false) = []
  | [] => rfl
  | x :: r => by rw [List.length_cons, List.replicate_succ, D.kept, D.kept_no r]; rfl

/-- The text of round j. -/
def D.mark (j : Nat) : List UInt8 := D.full [UInt8.ofNat j, 1]
theorem mark_len (j : Nat) : (D.mark j).length = 512 := full_len _
theorem mark_ne {i j : Nat} (hi : i < 100) (hj : j < 100) (h : i ≠ j) : D.mark j ≠ D.mark i := by
  intro e
  have h0 : (D.mark j)[0]'(by rw [mark_len]; omega) = (D.mark i)[0]'(by rw [mark_len]; omega) := by simp only [e]
  unfold D.mark at h0
  rw [full_get, full_get] at h0
  have h1 : (UInt8.ofNat j) = UInt8.ofNat i := h0
  have h2 := congrArg UInt8.toNat h1
  simp at h2
  omega
theorem mark_zero (i : Nat) : List.replicate 512 0 ≠ D.mark i := by
  intro e
  have h0 : (List.replicate 512 (0 : UInt8))[1]'(by rw [List.length_replicate]; omega) = (D.mark i)[1]'(by rw [mark_len]; omega) := by simp only [e]
  unfold D.mark at h0
  rw [full_get, List.getElem_replicate] at h0
  have h1 : (0 : UInt8) = 1 := h0
  exact absurd h1 (by decide)

/-- The disk behind i rounds. -/
structure FuseAt (after i : Nat) (d : D.Dsk) : Prop where
  n : d.n = 3
  down : d.down = false
  armed : d.armed = true
  aft : d.after = (after : Int) - i
  ia : i ≤ after
  big : (after : Int) ≤ 9223372036854775807
  i100 : i ≤ 100
  wl : d.wait.length ≤ i
  wm : ∀ x ∈ d.wait, ∃ j, j < i ∧ x.2 = D.mark j
  sm : ∀ k s, d.safe k = some s → ∃ j, j < i ∧ s = D.mark j
theorem FuseAt.start (after : Nat) (h : (after : Int) ≤ 9223372036854775807) : D.fuseE (D.fresh 3) after = 0 ∧ FuseAt after 0 (D.fuse (D.fresh 3) after) := by
  have h0 : ¬ (after : Int) < 0 := by omega
  unfold D.fuseE D.fuse
  rw [if_neg h0, if_neg h0]
  exact ⟨rfl, ⟨rfl, rfl, rfl, by show (after : Int) = _; omega, by omega, h, by omega, by simp [D.fresh], by simp [D.fresh], by simp [D.fresh]⟩⟩
theorem FuseAt.bad7 {after i : Nat} {d : D.Dsk} (h : FuseAt after i d) : D.writeE d 7 [] = 1 ∧ D.write d 7 [] = d := by
  have hb : (7 : Int) < 0 ∨ d.n ≤ 7 := by rw [h.n]; omega
  unfold D.writeE D.write
  rw [if_pos hb, if_pos hb]
  exact ⟨rfl, rfl⟩
theorem FuseAt.bad1 {after i : Nat} {d : D.Dsk} (h : FuseAt after i d) : D.writeE d 1 [] = 2 ∧ D.write d 1 [] = d := by
  have hb : ¬ ((1 : Int) < 0 ∨ d.n ≤ 1) := by rw [h.n]; omega
  have hb2 : ([] : List UInt8).length ≠ 512 := by simp
  unfold D.writeE D.write
  rw [if_neg hb, if_neg hb, if_pos hb2, if_pos hb2]
  exact ⟨rfl, rfl⟩
theorem FuseAt.wok {after i : Nat} {d : D.Dsk} (h : FuseAt after i d) : ¬ (((i % 3 : Nat) : Int) < 0 ∨ d.n ≤ ((i % 3 : Nat) : Int) ∨ (D.mark i).length ≠ 512 ∨ d.down = true) := by
  rw [h.n, h.down, mark_len]
  simp
  omega
/-- A round ahead of the fuse's end. -/
theorem FuseAt.goesOn {after i : Nat} {d : D.Dsk} (h : FuseAt after i d) (hi : i < after) : D.done d = true ∧ D.goes d = { d with after := (after : Int) - (i + 1 : Nat) } := by
  have h0 : (d.armed && d.after == 0) = false := by
    rw [h.armed, h.aft]; simp; omega
  unfold D.done D.goes
  rw [h0, h.down]
  refine ⟨rfl, ?_⟩
  have hw : wrap64 (d.after - 1) = (after : Int) - (i + 1 : Nat) := by
    rw [h.aft]
    have := h.big
    unfold wrap64
    omega
  rw [hw]
  rfl
theorem FuseAt.flush {after i : Nat} {d : D.Dsk} (h : FuseAt after i d) (hi : i < after) (h100 : i < 100) : D.flushE d = 0 ∧ FuseAt after (i + 1) (D.flush d) ∧ (D.flush d).wait.length = 0 := by
  obtain ⟨e1, e2⟩ := h.goesOn hi
  unfold D.flushE D.flush
  rw [e1, e2]
  refine ⟨rfl, ⟨h.n, h.down, h.armed, rfl, hi, h.big, h100, by simp, by simp, ?_⟩, rfl⟩
  intro k s hs
  refine D.over_all (R := fun s => ∃ j, j < i + 1 ∧ s = D.mark j) d.wait d.safe (fun k s hs => ?_) (fun x hx => ?_) k s hs
  · obtain ⟨j, hj, e⟩ := h.sm k s hs; exact ⟨j, by omega, e⟩
  · obtain ⟨j, hj, e⟩ := h.wm x hx; exact ⟨j, by omega, e⟩
set_option maxRecDepth 100000 in
theorem FuseAt.write {after i : Nat} {d : D.Dsk} (h : FuseAt after i d) (hi : i < after) (h100 : i < 100) :
    D.writeE d ((i % 3 : Nat) : Int) (D.mark i) = 0 ∧ FuseAt after (i + 1) (D.write d ((i % 3 : Nat) : Int) (D.mark i)) ∧ (D.write d ((i % 3 : Nat) : Int) (D.mark i)).wait.length = d.wait.length + 1 := by
  obtain ⟨e1, e2⟩ := h.goesOn hi
  obtain ⟨e3, e4⟩ := D.write_not h.wok
  rw [e3, e4, e1, e2]
  refine ⟨rfl, ⟨h.n, h.down, h.armed, rfl, hi, h.big, h100, ?_, ?_, ?_⟩, by simp⟩
  · have := h.wl; simp; omega
  · intro x hx
    rcases List.mem_append.1 hx with hx | hx
    · obtain ⟨j, hj, e⟩ := h.wm x hx; exact ⟨j, by omega, e⟩
    · obtain rfl := List.mem_singleton.1 hx; exact ⟨i, Nat.lt_succ_self i, Eq.refl (D.mark i)⟩
  · intro k s hs
    obtain ⟨j, hj, e⟩ := h.sm k s hs; exact ⟨j, by omega, e⟩
/-- The round in which the power goes off. -/
theorem FuseAt.ends {after : Nat} {d : D.Dsk} (h : FuseAt after after d) : D.done d = false ∧ D.goes d = { d with down := true, armed := false } := by
  have h0 : (d.armed && d.after == 0) = true := by
    rw [h.armed, h.aft]; simp
  unfold D.done D.goes
  rw [h0, h.down]
  exact ⟨rfl, rfl⟩
/-- A disk that is down. -/
structure Down (n : Int) (safe : Int → Option (List UInt8)) (wait : List (Int × List UInt8)) (d : D.Dsk) : Prop where
  n : d.n = n
  down : d.down = true
  wait : d.wait = wait
  safe : d.safe = safe
theorem Down.flush {n : Int} {safe : Int → Option (List UInt8)} {wait : List (Int × List UInt8)} {d : D.Dsk} (h : Down n safe wait d) : D.flushE d = 3 ∧ D.flush d = d := by
  have h0 : D.done d = false := by unfold D.done; rw [h.down]; rfl
  have h1 : D.goes d = d := by unfold D.goes; rw [if_pos h.down]
  unfold D.flushE D.flush
  rw [h0, h1]
  exact ⟨rfl, rfl⟩
theorem Down.fuse {n : Int} {safe : Int → Option (List UInt8)} {wait : List (Int × List UInt8)} {d : D.Dsk} (h : Down n safe wait d) : D.fuseE d 0 = 3 ∧ D.fuse d 0 = d := by
  unfold D.fuseE D.fuse
  rw [h.down]
  exact ⟨rfl, rfl⟩
theorem FuseAt.flushEnd {after : Nat} {d : D.Dsk} (h : FuseAt after after d) : D.flushE d = 3 ∧ Down 3 d.safe d.wait (D.flush d) := by
  obtain ⟨e1, e2⟩ := h.ends
  unfold D.flushE D.flush
  rw [e1, e2]
  exact ⟨rfl, ⟨h.n, rfl, rfl, rfl⟩⟩
theorem FuseAt.writeEnd {after : Nat} {d : D.Dsk} (h : FuseAt after after d) : D.writeE d ((after % 3 : Nat) : Int) (D.mark after) = 3 ∧
    Down 3 d.safe (d.wait ++ [(((after % 3 : Nat) : Int), D.mark after)]) (D.write d ((after % 3 : Nat) : Int) (D.mark after)) := by
  obtain ⟨e1, e2⟩ := h.ends
  obtain ⟨e3, e4⟩ := D.write_not h.wok
  rw [e3, e4, e1, e2]
  exact ⟨rfl, ⟨h.n, rfl, rfl, rfl⟩⟩
/-- Behind the restart. -/
theorem Down.restart {n : Int} {safe : Int → Option (List UInt8)} {wait : List (Int × List UInt8)} {d : D.Dsk} (h : Down n safe wait d) (ks : List Bool) (i : Int) (h1 : 0 ≤ i) (h2 : i < n) :
    D.readE (D.restart d ks) i = 0 ∧ D.readB (D.restart d ks) i = (D.over safe (D.kept wait ks) i).getD (List.replicate 512 0) ∧ (D.restart d ks).wait.length = 0 := by
  have hb : ¬ (i < 0 ∨ (D.restart d ks).n ≤ i) := by show ¬ (i < 0 ∨ d.n ≤ i); rw [h.n]; omega
  unfold D.readE D.readB
  rw [if_neg hb, if_neg hb]
  refine ⟨rfl, ?_, rfl⟩
  unfold D.sector D.restart
  rw [h.safe, h.wait]
  rfl
/-- A write in which the power goes off is kept as it is said. -/
theorem FuseAt.keptAll {after : Nat} {d : D.Dsk} (_h : FuseAt after after d) : (D.over d.safe (D.kept (d.wait ++ [(((after % 3 : Nat) : Int), D.mark after)]) (List.replicate (d.wait.length + 1) true)) ((after % 3 : Nat) : Int)).getD (List.replicate 512 0) = D.mark after := by
  have h1 := D.kept_all (d.wait ++ [(((after % 3 : Nat) : Int), D.mark after)])
  generalize D.mark after = M at *
  rw [List.length_append, List.length_singleton] at h1
  rw [h1, D.over_snoc]
  simp
set_option maxRecDepth 100000 in
theorem FuseAt.keptNo {after : Nat} {d : D.Dsk} (h : FuseAt after after d) (h100 : after < 100) : (D.over d.safe (D.kept (d.wait ++ [(((after % 3 : Nat) : Int), D.mark after)]) (List.replicate (d.wait.length + 1) false)) ((after % 3 : Nat) : Int)).getD (List.replicate 512 0) ≠ D.mark after := by
  have h1 := D.kept_no (d.wait ++ [(((after % 3 : Nat) : Int), D.mark after)])
  rw [List.length_append, List.length_singleton] at h1
  rw [h1]
  show (d.safe _).getD _ ≠ _
  cases hs : d.safe ((after % 3 : Nat) : Int) with
  | none => rw [Option.getD_none]; exact mark_zero after
  | some s =>
    obtain ⟨j, hj, rfl⟩ := h.sm _ s hs
    rw [Option.getD_some]
    exact mark_ne h100 (by omega) (by omega)
end Go.Proofs.Ytmlancmcgcjodaa
