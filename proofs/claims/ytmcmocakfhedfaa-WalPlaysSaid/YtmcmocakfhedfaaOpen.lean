/- Slices that came in, opened: truth values, whole numbers. -/
import Derived.Test.YtmcmocakfhedfaaProg
import Derived.Test.YtmcmocakfhedfaaBase
import Derived.Test.YtmcmocakfhedfaaB8
import Derived.OpenShut
import Derived.ChangeSlices
namespace Go.Proofs.Ytmcmocakfhedfaa
open Go.RowKit Go.ChangeShapes Go.WideShapes Go.ChangeAt

section
variable {H : Type} {enc : TypeId × Value → H} {P : Program} {w : World} {base : Nat} {spare : Nat → Bool} {held : Bool}
/-- A slice of elements of one cell: nil, or each cell with its reading. -/
theorem open_cells {t e : TypeId} {fuel : Nat} {v : Value} {x : DataW H × List MemPlace} (ht : P.underlying t = some (.slice e)) (hc : P.cellsOf e = 1) (h : DataW.trod enc P w base spare held fuel t [v] = some x) :
    v = .slice none 0 0 ∨ ∃ (a : Addr) (len cap n : Nat), v = .slice (some a) len cap ∧ len ≤ cap ∧ cap ≤ maxLen ∧ ∀ i, i < len → ∃ u y, w.cell? (a.add i) = some u ∧ DataW.trod enc P w base spare held n e [u] = some y := by
  rcases DataW.trod_slice ht h with ⟨hcs, _⟩ | ⟨a, len, cap, elems, rest, n, _, hcs, _, _, hl, hm, hlen, hel, _⟩
  · left; simpa using hcs
  · right
    refine ⟨a, len, cap, n, by simpa using hcs, hl, hm, fun i hi => ?_⟩
    have h1 := hel i hi
    rw [hc, Nat.mul_one] at h1
    have hy : elems[i]? = some (elems[i]'(by omega)) := List.getElem?_eq_getElem (by omega)
    rw [hy, Option.bind_eq_some_iff] at h1
    obtain ⟨cs, h2, h3⟩ := h1
    obtain ⟨_, hcl, hat⟩ := World.cells?_some h2
    have h4 := hat 0 (by omega)
    match cs, hcl with
    | [u], _ =>
      refine ⟨u, _, ?_, h3⟩
      have e0 : (a.add i).add 0 = a.add i := by simp [Addr.add]
      rw [e0] at h4
      simpa using h4
theorem trod_bool_inv {t : TypeId} (ht : P.underlying t = some .bool) {fuel : Nat} {v : Value} {x : DataW H × List MemPlace} (h : DataW.trod enc P w base spare held fuel t [v] = some x) : ∃ b, v = .bool b := by
  cases fuel with
  | zero => simp [DataW.trod] at h
  | succ n => cases v <;> simp [DataW.trod, ht] at h ⊢
/-- Cells of one kind make a row that reads. -/
theorem reads_of {α : Type} (g : α → Value) (hg : ∀ x, (g x).oneCell' = true) (x0 : α) {a : Addr} {len cap : Nat} (hl : len ≤ cap) (hm : cap ≤ maxLen) (R : α → Prop) (h : ∀ i, i < len → ∃ x, w.cell? (a.add i) = some (g x) ∧ R x) :
    ∃ l : List α, l.length = len ∧ Reads w (.slice (some a) len cap) (l.map g) ∧ ∀ x ∈ l, R x := by
  have each : ∀ i, ∃ x : α, i < len → w.cell? (a.add i) = some (g x) ∧ R x := fun i => by
    by_cases hi : i < len
    · obtain ⟨x, hx⟩ := h i hi; exact ⟨x, fun _ => hx⟩
    · exact ⟨x0, fun h => absurd h hi⟩
  obtain ⟨U, hU⟩ := Classical.axiomOfChoice each
  refine ⟨(List.range len).map U, by simp, ⟨some a, cap, by simp, by simpa using hl, hm, by simp, ?_, ?_⟩, ?_⟩
  · intro u hu
    obtain ⟨x, _, rfl⟩ := List.mem_map.1 hu
    exact hg x
  · by_cases h0 : len = 0
    · left; subst h0; rfl
    · right
      obtain ⟨b, off, spot⟩ := a
      have hc0 := (hU 0 (by omega)).1
      have hs : spot = none := by simpa [Addr.add] using World.cell?_spot hc0
      subst hs
      refine ⟨b, off, rfl, fun j u hj => ?_⟩
      have hj' : j < len := by
        have := (List.getElem?_eq_some_iff.1 hj).1
        simpa using this
      have h := (hU j (by omega)).1
      rw [Addr.add_lit] at h
      rw [h]
      simp [hj'] at hj
      exact congrArg some hj
  · intro x hx
    obtain ⟨i, hi, rfl⟩ := List.mem_map.1 hx
    exact (hU i (List.mem_range.1 hi)).2
end
theorem open_bools {H : Type} {enc : TypeId × Value → H} {w : World} {base : Nat} {spare : Nat → Bool} {held : Bool} {fuel : Nat} {v : Value} {x : DataW H × List MemPlace} (h : DataW.trod enc Try.prog w base spare held fuel 68 [v] = some x) :
    ∃ l : List Bool, Reads w v (l.map Value.bool) := by
  rcases open_cells Try.underlying68 (by kernel_rfl) h with rfl | ⟨a, len, cap, n, rfl, hl, hm, hc⟩
  · exact ⟨[], Reads.nil w⟩
  · obtain ⟨l, _, hr, _⟩ := reads_of (w := w) Value.bool (fun _ => rfl) false hl hm (fun _ => True) (fun i hi => by
      obtain ⟨u, y, h1, h2⟩ := hc i hi
      obtain ⟨b, rfl⟩ := trod_bool_inv Try.underlying4 h2
      exact ⟨b, h1, trivial⟩)
    exact ⟨l, hr⟩
def intVal (n : Int) : Value := .int .i64 n
theorem open_nums {H : Type} {enc : TypeId × Value → H} {w : World} {base : Nat} {spare : Nat → Bool} {held : Bool} {fuel : Nat} {v : Value} {x : DataW H × List MemPlace} (h : DataW.trod enc Try.prog w base spare held fuel 25 [v] = some x) :
    ∃ l : List Int, Reads w v (l.map intVal) ∧ ∀ n ∈ l, (Lit.int .i64 n).wf = true := by
  rcases open_cells Try.underlying25 (by kernel_rfl) h with rfl | ⟨a, len, cap, n, rfl, hl, hm, hc⟩
  · exact ⟨[], Reads.nil w, by simp⟩
  · obtain ⟨l, _, hr, hw⟩ := reads_of (w := w) intVal (fun _ => rfl) 0 hl hm (fun n => (Lit.int .i64 n).wf = true) (fun i hi => by
      obtain ⟨u, y, h1, h2⟩ := hc i hi
      obtain ⟨m, hm, _, hw⟩ := DataW.trod_int Try.underlying3 h2
      obtain rfl : u = .int .i64 m := by simpa using hm
      exact ⟨m, h1, hw⟩)
    exact ⟨l, hr, hw⟩
end Go.Proofs.Ytmcmocakfhedfaa
