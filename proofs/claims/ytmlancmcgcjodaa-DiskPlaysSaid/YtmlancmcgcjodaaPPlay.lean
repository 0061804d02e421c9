/- DiskPlays, in plain words: the disk and the document's disk go together. -/
import Derived.Test.YtmlancmcgcjodaaRef4c
import Derived.Test.YtmlancmcgcjodaaPFuse
namespace Go.Proofs.Ytmlancmcgcjodaa
open Go.RowKit

/-- The disk and the document's disk, side by side. -/
structure Rel (d : D.Dsk) (r : Ref4) : Prop where
  n : d.n = r.n
  down : d.down = r.down
  armed : d.armed = r.armed
  aft : r.armed = true → d.after = r.after
  wait : d.wait = r.wait
  safe : d.safe = D.over (fun _ => none) r.safe

theorem over_look (l : List (Int × List UInt8)) (i : Int) : D.over (fun _ => none) l i = D.look l i := by
  have key : ∀ (k : Nat), k ≤ l.length → D.over (fun _ => none) (l.take k) i = D.look (l.take k) i := by
    intro k
    induction k with
    | zero => intro _; rfl
    | succ k ih =>
      intro h
      rw [D.over_take _ l k (by omega), D.look_take l k (by omega) i]
      show (if i = l[k].1 then some l[k].2 else D.over (fun _ => none) (l.take k) i) = _
      by_cases he : l[k].1 = i
      · rw [if_pos he, if_pos he.symm]
      · rw [if_neg he, if_neg (fun e => he e.symm)]
        exact ih (by omega)
  have h := key l.length (Nat.le_refl _)
  rwa [List.take_length] at h

theorem Rel.sector {d : D.Dsk} {r : Ref4} (h : Rel d r) (i : Int) : D.sector d i = R4.sector r i := by
  unfold D.sector R4.sector
  rw [h.wait, h.safe, over_look]
theorem Rel.readE {d : D.Dsk} {r : Ref4} (h : Rel d r) (i : Int) : D.readE d i = R4.readE r i := by
  unfold D.readE R4.readE
  rw [h.n, h.down]
theorem Rel.readB {d : D.Dsk} {r : Ref4} (h : Rel d r) (i : Int) : D.readB d i = R4.readB r i := by
  unfold D.readB R4.readB
  rw [h.n, h.down, h.sector]
theorem Rel.fresh (n : Int) : Rel (D.fresh n) ⟨n, [], [], false, false, 0⟩ := ⟨rfl, rfl, rfl, (fun h => by cases h), rfl, rfl⟩
theorem Rel.next {d : D.Dsk} {r : Ref4} (h : Rel d r) : Rel (D.goes d) (R4.next r).1 ∧ D.done d = (R4.next r).2 := by
  obtain ⟨n, safe, wait, down, armed, after⟩ := d
  obtain ⟨n', safe', wait', armed', down', after'⟩ := r
  obtain ⟨h1, h2, h3, h4, h5, h6⟩ := h
  simp only at h1 h2 h3 h4 h5 h6
  subst h1 h2 h3 h5 h6
  unfold D.goes D.done R4.next
  cases down
  · cases armed
    · exact ⟨⟨rfl, rfl, rfl, (fun h => by cases h), rfl, rfl⟩, rfl⟩
    · obtain rfl := h4 rfl
      by_cases h0 : after = 0
      · subst h0
        exact ⟨⟨rfl, rfl, rfl, (fun h => by cases h), rfl, rfl⟩, rfl⟩
      · have hb : (after == 0) = false := beq_eq_false_iff_ne.2 h0
        simp only [hb, Bool.and_false, Bool.false_eq_true, if_false, if_true]
        exact ⟨⟨rfl, rfl, rfl, fun _ => rfl, rfl, rfl⟩, rfl⟩
  · exact ⟨⟨rfl, rfl, rfl, h4, rfl, rfl⟩, rfl⟩
theorem Rel.lay {d : D.Dsk} {r : Ref4} (h : Rel d r) (i : Int) (s : List UInt8) : Rel (D.write d i s) (R4.lay r i s).1 ∧ D.writeE d i s = (R4.lay r i s).2 := by
  obtain ⟨hn, hd⟩ := h.next
  unfold D.write D.writeE R4.lay
  rw [h.n]
  by_cases h1 : i < 0 ∨ r.n ≤ i
  · rw [if_pos h1, if_pos h1, if_pos h1]; exact ⟨h, rfl⟩
  · rw [if_neg h1, if_neg h1, if_neg h1]
    by_cases h2 : s.length ≠ 512
    · rw [if_pos h2, if_pos h2, if_pos h2]; exact ⟨h, rfl⟩
    · rw [if_neg h2, if_neg h2, if_neg h2, h.down]
      by_cases h3 : r.down = true
      · rw [if_pos h3, if_pos h3, if_pos h3]; exact ⟨h, rfl⟩
      · rw [if_neg h3, if_neg h3, if_neg h3, hd]
        refine ⟨⟨hn.n, hn.down, hn.armed, hn.aft, by show d.wait ++ _ = r.wait ++ _; rw [h.wait], hn.safe⟩, rfl⟩
theorem Rel.flush {d : D.Dsk} {r : Ref4} (h : Rel d r) : Rel (D.flush d) (R4.flush r).1 ∧ D.flushE d = (R4.flush r).2 := by
  obtain ⟨hn, hd⟩ := h.next
  unfold D.flush D.flushE R4.flush
  rw [hd]
  cases (R4.next r).2
  · exact ⟨hn, rfl⟩
  · refine ⟨⟨hn.n, hn.down, hn.armed, hn.aft, rfl, ?_⟩, rfl⟩
    show D.over d.safe d.wait = D.over _ (r.safe ++ r.wait)
    rw [D.over_append, h.safe, h.wait]
theorem Rel.fuse {d : D.Dsk} {r : Ref4} (h : Rel d r) (a : Int) : Rel (D.fuse d a) (R4.fuse r a).1 ∧ D.fuseE d a = (R4.fuse r a).2 := by
  unfold D.fuse D.fuseE R4.fuse
  by_cases h1 : a < 0
  · rw [if_pos h1, if_pos h1, if_pos h1]; exact ⟨h, rfl⟩
  · rw [if_neg h1, if_neg h1, if_neg h1, h.down]
    by_cases h3 : r.down = true
    · rw [if_pos h3, if_pos h3, if_pos h3]; exact ⟨h, rfl⟩
    · rw [if_neg h3, if_neg h3, if_neg h3]
      exact ⟨⟨h.n, rfl, rfl, fun _ => rfl, h.wait, h.safe⟩, rfl⟩
theorem Rel.cut {d : D.Dsk} {r : Ref4} (h : Rel d r) : Rel (D.cut d) (R4.cut r) := ⟨h.n, rfl, rfl, (fun h => by cases h), h.wait, h.safe⟩
theorem Rel.restart {d : D.Dsk} {r : Ref4} (h : Rel d r) (ks : List Bool) : Rel (D.restart d ks) (R4.restart r ks) := by
  refine ⟨h.n, rfl, rfl, (fun h => by cases h), rfl, ?_⟩
  show D.over d.safe (D.kept d.wait ks) = D.over _ (r.safe ++ D.kept r.wait ks)
  rw [D.over_append, h.safe, h.wait]

/-- How many writes there are. -/
def R4.len (r : Ref4) : Nat := r.safe.length + r.wait.length
theorem lay_len (r : Ref4) (i : Int) (s : List UInt8) : R4.len (R4.lay r i s).1 ≤ R4.len r + 1 := by
  obtain ⟨h1, h2, _⟩ := next_rows r
  unfold R4.lay R4.len
  split
  · show r.safe.length + r.wait.length ≤ _; omega
  · split
    · show r.safe.length + r.wait.length ≤ _; omega
    · split
      · show r.safe.length + r.wait.length ≤ _; omega
      · show (R4.next r).1.safe.length + (r.wait ++ [(i, s)]).length ≤ _
        rw [h1]; simp; omega
theorem flush_len (r : Ref4) : R4.len (R4.flush r).1 ≤ R4.len r := by
  obtain ⟨h1, h2, _⟩ := next_rows r
  unfold R4.flush R4.len
  split
  · show (r.safe ++ r.wait).length + 0 ≤ _; simp
  · show (R4.next r).1.safe.length + (R4.next r).1.wait.length ≤ _
    rw [h1, h2]; omega
theorem fuse_len (r : Ref4) (a : Int) : R4.len (R4.fuse r a).1 ≤ R4.len r := by
  unfold R4.fuse
  split
  · exact Nat.le_refl _
  · split <;> exact Nat.le_refl _
theorem restart_len (r : Ref4) (ks : List Bool) : R4.len (R4.restart r ks) ≤ R4.len r := by
  have h := kept_len r.wait ks r.wait.length
  rw [List.take_length] at h
  show (r.safe ++ D.kept r.wait ks).length + 0 ≤ r.safe.length + r.wait.length
  simp; omega
end Go.Proofs.Ytmlancmcgcjodaa
