/- A slice of byte slices that came in, opened. -/
import Derived.Test.YtnbadeaiocandaaProg
import Derived.Test.YtnbadeaiocandaaBase
import Derived.Test.YtnbadeaiocandaaSum
import Derived.Test.YtnbadeaiocandaaLong
namespace Go.Proofs.Ytnbadeaiocandaa
open Go.RowKit

theorem Rows2.nil (w : World) : Rows2 w (.slice none 0 0) [] := ⟨[], Reads.nil w, rfl, fun i hi => by simp at hi⟩

theorem rows_of_row {W : World} {x : Addr} {len cap : Nat} (hl : len ≤ cap) (hm : cap ≤ maxLen)
    (h : ∀ r, r < cap → ∃ (A : Option Addr) (L C : Nat) (Z : List Int), W.cell? (x.add r) = some (.slice A L C) ∧ L ≤ C ∧ C ≤ maxLen ∧ Z.length = C ∧ (∀ n ∈ Z, (Lit.int .u8 n).wf = true) ∧ (A = none → C = 0) ∧
      ∀ a', A = some a' → 0 ≤ a'.block ∧ ∀ c, c < C → W.cell? (a'.add c) = some (.int .u8 (Z.getD c 0))) : ∃ l, Rows2 W (.slice (some x) len cap) l := by
  have each : ∀ r, ∃ u : Value, ∃ l : List UInt8, r < cap → W.cell? (x.add r) = some u ∧ Bs W u l ∧ u.oneCell' = true := by
    intro r
    by_cases hr : r < cap
    · obtain ⟨A, L, C, Z, hc, hLC, hCm, hZ, hw, hn, hcell⟩ := h r hr
      cases A with
      | none =>
        obtain rfl := hn rfl
        obtain rfl : L = 0 := by omega
        exact ⟨.slice none 0 0, [], fun _ => ⟨hc, Bs.nil W, rfl⟩⟩
      | some a' =>
        obtain ⟨l, hb, _⟩ := bs_of_row hLC hCm hZ (fun i hi => (hcell a' rfl).2 i (by omega)) hw
        exact ⟨_, l, fun _ => ⟨hc, hb, rfl⟩⟩
    · exact ⟨undef, [], fun h => absurd h hr⟩
  obtain ⟨U, hU⟩ := Classical.axiomOfChoice each
  obtain ⟨Lf, hLf⟩ := Classical.axiomOfChoice hU
  refine ⟨(List.range len).map Lf, (List.range len).map U, ⟨some x, cap, by simp, by simpa using hl, hm, by simp, ?_, ?_⟩, by simp, ?_⟩
  · intro u hu
    obtain ⟨r, hr, rfl⟩ := List.mem_map.1 hu
    exact (hLf r (by have := List.mem_range.1 hr; omega)).2.2
  · by_cases h0 : len = 0
    · left; subst h0; rfl
    · right
      obtain ⟨b, off, spot⟩ := x
      have hc0 := (hLf 0 (by omega)).1
      have hs : spot = none := by simpa [Addr.add] using World.cell?_spot hc0
      subst hs
      refine ⟨b, off, rfl, fun j u hj => ?_⟩
      have hj' : j < len := by
        have := (List.getElem?_eq_some_iff.1 hj).1
        simpa using this
      have h := (hLf j (by omega)).1
      rw [Addr.add_lit] at h
      rw [h]
      simp [hj'] at hj
      exact congrArg some hj
  · intro i hi
    simp at hi
    exact ⟨U i, by simp [hi], by simpa using (hLf i (by omega)).2.1⟩
end Go.Proofs.Ytnbadeaiocandaa
