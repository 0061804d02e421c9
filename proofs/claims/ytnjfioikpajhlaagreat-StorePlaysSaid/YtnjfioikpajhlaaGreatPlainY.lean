import Derived.Test.YtnjfioikpajhlaaGreatPlainX
set_option maxRecDepth 100000
set_option maxHeartbeats 64000000
/- The store's plain law: what a good batch does to the keys; counts. -/
namespace Go.Proofs.YtnjfioikpajhlaaGreat
namespace S6
theorem named_iff {ws : List Wr} {k : Key} : named ws k = true ↔ ∃ y ∈ ws, y.key = k := by
 unfold named
 rw [List.any_eq_true]
 constructor
 ·rintro ⟨y, h1, h2⟩; exact ⟨y, h1, of_decide_eq_true h2⟩
 ·rintro ⟨y, h1, h2⟩; exact ⟨y, h1, decide_eq_true h2⟩
theorem named_snoc (x : Wr) (ws : List Wr) (k : Key) : named (ws ++ [x]) k = (named ws k || decide (x.key = k)) := by simp [named]
end S6
end Go.Proofs.YtnjfioikpajhlaaGreat
