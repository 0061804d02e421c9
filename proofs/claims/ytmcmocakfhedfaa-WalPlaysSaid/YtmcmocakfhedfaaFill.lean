/- Building a struct or a slice out of parts of many cells, the cells whatever. -/
import Derived.Test.YtmcmocakfhedfaaBase
import Derived.Laws.Tables
namespace Go.Proofs.Ytmcmocakfhedfaa
open Go.RowKit

theorem setRange_list (off : Nat) : ∀ (L : List Value) (k : Nat) (cs : List Value), off + k + L.length ≤ cs.length →
    ((L.zipIdx k).foldl (fun (cs : Array Value) (x : Value × Nat) => cs.setIfInBounds (off + x.2) x.1) cs.toArray) = (cs.take (off + k) ++ L ++ cs.drop (off + k + L.length)).toArray
  | [], k, cs, h => by simp
  | v :: r, k, cs, h => by
    have hlen : off + k < cs.length := by simp at h; omega
    rw [List.zipIdx_cons, List.foldl_cons]
    have e : cs.toArray.setIfInBounds (off + (v, k).2) (v, k).1 = (cs.set (off + k) v).toArray := by simp
    rw [e, setRange_list off r (k + 1) (cs.set (off + k) v) (by simp at h ⊢; omega)]
    congr 1
    rw [← Nat.add_assoc]
    have h1 : (cs.set (off + k) v).take (off + k + 1) = cs.take (off + k) ++ [v] := by
      rw [List.take_succ_eq_append_getElem (by simpa using hlen), List.take_set_of_le (by omega)]
      simp
    have h2 : (cs.set (off + k) v).drop (off + k + 1 + r.length) = cs.drop (off + k + 1 + r.length) := by
      rw [List.drop_set_of_lt (by omega)]
    rw [h1, h2]
    simp [Nat.add_assoc, Nat.add_comm 1]
theorem setRange (off : Nat) (v : Array Value) (cs : List Value) (h : off + v.size ≤ cs.length) :
    v.zipIdx.foldl (fun (cs : Array Value) (x : Value × Nat) => cs.setIfInBounds (off + x.2) x.1) cs.toArray = (cs.take off ++ v.toList ++ cs.drop (off + v.size)).toArray := by
  have h1 := setRange_list off v.toList 0 cs (by simpa using h)
  rw [← Array.foldl_toList, Array.toList_zipIdx]
  simpa using h1
theorem fill_one (place : Nat → Option (Nat × Nat)) (cs : List Value) (i : Nat) (v : Value) (rest : List (Nat × Value)) (off size : Nat) (hp : place i = some (off, size)) (hv : v.cells.size = size) (h : off + size ≤ cs.length) :
    Instr.fill place cs.toArray ((i, v) :: rest) = Instr.fill place (cs.take off ++ v.cells.toList ++ cs.drop (off + size)).toArray rest := by
  subst hv
  have hn : ¬ (v.cells.size ≠ v.cells.size || decide (off + v.cells.size > cs.toArray.size)) = true := by simp; omega
  simp only [Instr.fill, hp]
  rw [if_neg hn]
  congr 1
  exact setRange off v.cells cs h

section
variable {P : Program}
/-- A struct of one cell and a row of cells. -/
theorem built_two (t : TypeId) (fields : Array Field) (it : TypeInfo) (z : Value) (n : Nat) (hu : P.underlying t = some (.struct fields)) (hi : P.info? t = some it) (hz : it.zero = some z) (hsz : z.cells.size = n + 1)
    (hpl : fields.toList.mapM (fun f => (P.info? f.type).map fun i => (f.offset, i.size)) = some [(0, 1), (1, n)]) (a : Value) (ha : a.cells = #[a]) (L : List Value) (hL : L.length = n) :
    P.built t [(0, a), (1, .agg L.toArray)] = some (a :: L).toArray := by
  unfold Program.built
  simp only [hi, hu, hz, hpl]
  have hl : z.cells.toList.length = n + 1 := by simpa using hsz
  have hagg : (Value.agg L.toArray).cells = L.toArray := rfl
  have e0 : z.cells = z.cells.toList.toArray := by simp
  rw [e0]
  generalize z.cells.toList = Z at *
  rw [fill_one _ _ 0 a _ 0 1 rfl (by rw [ha]; rfl) (by omega)]
  rw [fill_one _ _ 1 (.agg L.toArray) _ 1 n rfl (by rw [hagg]; simpa using hL) (by rw [ha]; simp; omega), ha, hagg]
  simp only [Instr.fill]
  congr 1
  apply Array.ext'
  have hd : List.drop (1 + n) Z = [] := List.drop_eq_nil_of_le (by omega)
  have hd2 : List.drop (n + 1) Z = [] := List.drop_eq_nil_of_le (by omega)
  simp [hL]
  first | exact hd | exact hd2 | omega
/-- A slice of one element. -/
theorem run_buildSlice_one (w : World) (t e : TypeId) (ie : TypeInfo) (z : Value) (v : Value) (hu : P.underlying t = some (.slice e)) (hi : P.info? e = some ie) (hz : ie.zero = some z) (hsz : z.cells.size = ie.size) (hpos : 0 < ie.size) (hmax : ie.size ≤ 16777216)
    (hv : v.cells.size = ie.size) : (Instr.buildSlice t 1 #[(0, v)]).run P w = .ok (.slice (some ⟨w.heap.size, 0, none⟩) 1 1) (w.alloc (.cells v.cells e)) := by
  have hn1 : ¬ (1 * ie.size > 2 ^ 24) := by omega
  have hn2 : ¬ (1 * ie.size = 0) := by omega
  have hfill : Instr.fill (fun i => some (i * ie.size, ie.size)) ((Array.range (1 * ie.size)).map (z.cells[· % z.cells.size]!)) [(0, v)] = some v.cells := by
    have e0 : ((Array.range (1 * ie.size)).map (z.cells[· % z.cells.size]!)) = ((List.range ie.size).map (z.cells[· % z.cells.size]!)).toArray := by
      apply Array.ext'
      simp
    rw [e0, fill_one _ _ 0 v _ (0 * ie.size) ie.size rfl hv (by simp)]
    have hd : List.drop (0 * ie.size + ie.size) (List.map (fun x => z.cells[x % z.cells.size]!) (List.range ie.size)) = [] := List.drop_eq_nil_of_le (by simp)
    rw [hd]
    simp [Instr.fill]
  have hsize : (sizeOf e).run P w = .ok ie.size w := by simp [sizeOf, typeInfo, hi]
  have hzero : (zeroValue e).run P w = .ok z w := by simp [zeroValue, typeInfo, hi, hz]
  unfold Instr.buildSlice
  rw [Sem.run_bind, run_underlying hu]
  simp only [Result.andThen_ok]
  rw [Sem.run_bind, hsize]
  simp only [Result.andThen_ok]
  rw [if_neg hn1]
  rw [Nat.one_mul] at hfill hn2
  simp [hzero]
  rw [if_neg hn2, hfill]
  simp [newRow]
/-- The operations, as a region's walk meets them. -/
theorem exec_build {o : Oper} {ρ : Operand → Value} {t : TypeId} {parts : Array (Nat × Operand)} {vals : Array (Nat × Value)} {v : Value} {w : World} (ho : o.op = .build t parts) (hv : (parts.map fun (i, x) => (i, ρ x)) = vals)
    (hr : (Instr.build t vals).run P w = .ok v w) : (execOp ρ o).run P w = .ok (.value v) w := by
  unfold execOp
  simp only [ho]
  rw [hv]
  simp [Sem.run_bind, hr, Result.andThen]
theorem wp_buildSlice {o : Oper} {a : Act} {w w' : World} {K : Act → World → Prop} {Q : Exit → Act → World → Prop} {t : TypeId} {len : Nat} {parts : Array (Nat × Operand)} {vals : Array (Nat × Value)} {v : Value} (ho : o.op = .buildSlice t len parts)
    (hv : (parts.map fun (i, x) => (i, a.eval x)) = vals) (hr : (Instr.buildSlice t len vals).run P w = .ok v w') (h : K (a.put o.dst v) w') : o.wp P a w K Q := by
  unfold Oper.wp execOp
  simp only [ho]
  rw [hv]
  simp [Sem.run_bind, hr, Result.andThen]
  exact h
end
end Go.Proofs.Ytmcmocakfhedfaa
