/- A slice of twenty Booleans that is built by a literal. -/
import Derived.Test.YtmcmocakfhedfaaB8
import Derived.Test.YtmcmocakfhedfaaFill
import Derived.Test.YtmcmocakfhedfaaBig
namespace Go.Proofs.Ytmcmocakfhedfaa
open Go.RowKit

/-- Twenty parts, each 'true'. -/
def T20 : Array (Nat × Value) := #[(0, .bool true), (1, .bool true), (2, .bool true), (3, .bool true), (4, .bool true), (5, .bool true), (6, .bool true), (7, .bool true), (8, .bool true), (9, .bool true), (10, .bool true), (11, .bool true), (12, .bool true), (13, .bool true), (14, .bool true), (15, .bool true), (16, .bool true), (17, .bool true), (18, .bool true), (19, .bool true)]
/-- The operands of these. -/
def P20 : Array (Nat × Operand) := #[(0, .const (.bool true)), (1, .const (.bool true)), (2, .const (.bool true)), (3, .const (.bool true)), (4, .const (.bool true)), (5, .const (.bool true)), (6, .const (.bool true)), (7, .const (.bool true)), (8, .const (.bool true)), (9, .const (.bool true)), (10, .const (.bool true)), (11, .const (.bool true)), (12, .const (.bool true)), (13, .const (.bool true)), (14, .const (.bool true)), (15, .const (.bool true)), (16, .const (.bool true)), (17, .const (.bool true)), (18, .const (.bool true)), (19, .const (.bool true))]
def B20 : Array Value := #[.bool true, .bool true, .bool true, .bool true, .bool true, .bool true, .bool true, .bool true, .bool true, .bool true, .bool true, .bool true, .bool true, .bool true, .bool true, .bool true, .bool true, .bool true, .bool true, .bool true]
theorem fill20 : ∀ (m k : Nat) (cs : List Value), k + m = cs.length → Instr.fill (fun i => some (i * 1, 1)) cs.toArray ((List.range' k m).map (fun i => (i, Value.bool true))) = some (cs.take k ++ List.replicate m (Value.bool true)).toArray
  | 0, k, cs, h => by
    have : cs.take k = cs := List.take_of_length_le (by omega)
    simp [Instr.fill, this]
  | m + 1, k, cs, h => by
    rw [List.range'_succ, List.map_cons, fill_one _ cs k (.bool true) _ (k * 1) 1 rfl rfl (by omega)]
    have hl : (cs.take (k * 1) ++ (Value.bool true).cells.toList ++ cs.drop (k * 1 + 1)).length = cs.length := by
      simp [Value.cells]; omega
    rw [fill20 m (k + 1) _ (by rw [hl]; omega)]
    congr 1
    apply Array.ext'
    have h1 : (List.take k cs).length = k := by simp; omega
    simp [Value.cells, List.take_append, List.replicate_succ, h1]
    rw [List.take_of_length_le (by omega)]
theorem run_bools (w : World) : (Instr.buildSlice 68 20 T20).run Try.prog w = .ok (.slice (some ⟨w.heap.size, 0, none⟩) 20 20) (w.alloc (.cells B20 4)) := by
  have hfill : Instr.fill (fun i => some (i * 1, 1)) ((Array.range (20 * 1)).map ((Value.bool false).cells[· % (Value.bool false).cells.size]!)) T20.toList = some B20 := by
    have h := fill20 20 0 (List.replicate 20 (Value.bool false)) (by simp)
    have e1 : ((Array.range (20 * 1)).map ((Value.bool false).cells[· % (Value.bool false).cells.size]!)) = (List.replicate 20 (Value.bool false)).toArray := by kernel_rfl
    rw [e1]
    exact h
  have hsize : (sizeOf 4).run Try.prog w = .ok 1 w := by kernel_rfl
  have hzero : (zeroValue 4).run Try.prog w = .ok (.bool false) w := by kernel_rfl
  unfold Instr.buildSlice
  rw [Sem.run_bind, run_underlying Try.underlying68]
  simp only [Result.andThen_ok]
  rw [Sem.run_bind, hsize]
  simp only [Result.andThen_ok]
  rw [if_neg (show ¬ (20 * 1 > 2 ^ 24) by decide), if_neg (show ¬ (20 * 1 = 0) by decide)]
  simp only [Sem.run_bind, hzero, Result.andThen_ok, Sem.run_pure, hfill]
  simp [newRow]
theorem reads_bools (w : World) : Reads (w.alloc (.cells B20 4)) (.slice (some ⟨w.heap.size, 0, none⟩) 20 20) ((List.replicate 20 true).map Value.bool) :=
  Reads.row w [.bool true, .bool true, .bool true, .bool true, .bool true, .bool true, .bool true, .bool true, .bool true, .bool true, .bool true, .bool true, .bool true, .bool true, .bool true, .bool true, .bool true, .bool true, .bool true, .bool true] 4 (by simp [maxLen]) (by simp [Value.oneCell'])
section
variable {ops : Array Oper} {rest : List Oper} {o : Oper} {a : Act} {Q : Exit → Act → World → Prop}
theorem vals20 (a : Act) : (P20.map fun (i, x) => (i, a.eval x)) = T20 := by
  unfold P20 T20
  simp [Act.eval]
theorem wpl_bools (w : World) (hgd : o.guard = none) (hop : o.op = .buildSlice 68 20 P20)
    (h : wpList Try.prog ops Q rest (a.put o.dst (.slice (some ⟨w.heap.size, 0, none⟩) 20 20)) (w.alloc (.cells B20 4))) : wpList Try.prog ops Q (o :: rest) a w := by
  refine wpList_plain hgd fun K hK => ?_
  exact wp_buildSlice hop (vals20 a) (run_bools w) (hK _ _ h)
end
end Go.Proofs.Ytmcmocakfhedfaa
