/- Variables and rows of many cells: a new variable, a store over a whole block, elements of a row. -/
import Derived.Test.YtmcmocakfhedfaaBase
import Derived.Test.YtmcmocakfhedfaaMod
import Derived.Deep.MidRow
namespace Go.Proofs.Ytmcmocakfhedfaa
open Go.RowKit

theorem heap_setCells_other (b : Nat) : ∀ (vs : List Value) (o : Nat) (w : World) (k : Nat), k ≠ b → (w.setCells b o vs).heap[k]? = w.heap[k]?
  | [], _, _, _, _ => rfl
  | v :: r, o, w, k, h => by
    rw [World.setCells, heap_setCells_other b r (o + 1) _ k h]
    exact Below.heap_setCell _ _ _ _ h
theorem size_setCells (b : Nat) : ∀ (vs : List Value) (o : Nat) (w : World), (w.setCells b o vs).heap.size = w.heap.size
  | [], _, _ => rfl
  | v :: r, o, w => by rw [World.setCells, size_setCells b r (o + 1)]; simp
theorem blk_setCells (b : Nat) (e : TypeId) : ∀ (vs : List Value) (o : Nat) (w : World) (cs : List Value), w.heap[b]? = some (.cells cs.toArray e (0, 0)) → o + vs.length ≤ cs.length →
    (w.setCells b o vs).heap[b]? = some (.cells (cs.take o ++ vs ++ cs.drop (o + vs.length)).toArray e (0, 0))
  | [], o, w, cs, h, _ => by simpa [World.setCells] using h
  | v :: r, o, w, cs, h, hl => by
    have ho : o < cs.length := by simp at hl; omega
    rw [World.setCells, blk_setCells b e r (o + 1) _ (cs.set o v) (blk_set h o v) (by simp at hl ⊢; omega)]
    congr 2
    have h1 : (cs.set o v).take (o + 1) = cs.take o ++ [v] := by
      rw [List.take_succ_eq_append_getElem (by simpa using ho), List.take_set_of_le (by omega)]
      simp
    have h2 : (cs.set o v).drop (o + 1 + r.length) = cs.drop (o + 1 + r.length) := by rw [List.drop_set_of_lt (by omega)]
    rw [h1, h2]
    simp [Nat.add_assoc, Nat.add_comm 1]
theorem meta_setCells (b : Nat) : ∀ (vs : List Value) (o : Nat) (w : World), (w.setCells b o vs).os = w.os ∧ (w.setCells b o vs).tape = w.tape ∧ (w.setCells b o vs).output = w.output
  | [], _, _ => ⟨rfl, rfl, rfl⟩
  | v :: r, o, w => by rw [World.setCells]; exact meta_setCells b r (o + 1) _
theorem mod_setCells (F : Nat → Prop) (w : World) (b o : Nat) (vs : List Value) (hb : F b) : Mod F w (w.setCells b o vs) :=
  ⟨(meta_setCells b vs o w).1, (meta_setCells b vs o w).2.1, (meta_setCells b vs o w).2.2, Nat.le_of_eq (size_setCells b vs o w).symm, fun k _ hf => heap_setCells_other b vs o w k (fun e => hf (e ▸ hb))⟩

section
variable {P : Program} {ops : Array Oper} {rest : List Oper} {o : Oper} {a : Act} {Q : Exit → Act → World → Prop}
/-- 'var x T': a new block; what it holds is known by its number of cells alone. -/
theorem wpl_alloc (w : World) (hgd : o.guard = none) (e : TypeId) (hop : o.op = .alloc e) (it : TypeInfo) (z : Value) (hi : P.info? e = some it) (hz : it.zero = some z)
    (h : ∀ Z : List Value, Z.length = z.cells.size → wpList P ops Q rest (a.put o.dst (.pointer (some ⟨w.heap.size, 0, none⟩))) (w.alloc (.cells Z.toArray e))) : wpList P ops Q (o :: rest) a w := by
  refine wpList_plain hgd fun K hK => ?_
  have h2 := h z.cells.toList (by simp)
  unfold Oper.wp execOp
  simp only [hop]
  have hzero : (zeroValue e).run P w = .ok z w := by simp [zeroValue, typeInfo, hi, hz]
  simp [Instr.alloc, hzero, newVar, newRow]
  simp only [Array.toArray_toList] at h2
  exact hK _ _ h2
/-- A value of as many cells as the whole block has is stored into it. -/
theorem wpl_store_all (w : World) (hgd : o.guard = none) (ty : TypeId) (x y : Operand) (hop : o.op = .store ty x y) (b : Nat) (e : TypeId) (cs : List Value) (hb : w.heap[b]? = some (.cells cs.toArray e (0, 0)))
    (hx : a.eval x = .pointer (some ⟨b, 0, none⟩)) (L : List Value) (hy : a.eval y = .agg L.toArray) (hl : cs.length = L.length) (hi : (P.info? ty).map (·.size) = some L.length) (h1 : ∀ v ∈ L, v.oneCell' = true)
    (h : ∀ w', w'.heap[b]? = some (.cells L.toArray e (0, 0)) → Mod (fun k => k = b) w w' → w'.heap.size = w.heap.size → wpList P ops Q rest (a.put o.dst undef) w') : wpList P ops Q (o :: rest) a w := by
  refine wpList_store_mid hgd ty x y hop b 0 L.toArray hx hy ?_ (by simpa using hi) (all_oneCell_toArray h1) ?_
  · intro j hj
    have hj' : j < cs.length := by simp at hj; omega
    rw [Nat.zero_add]
    exact ⟨by rw [blk_cell hb j, List.getElem?_eq_getElem hj']; rfl, blk_free hb j⟩
  · have h2 := blk_setCells b e L 0 w cs hb (by omega)
    have h3 : cs.take 0 ++ L ++ cs.drop (0 + L.length) = L := by
      rw [List.drop_eq_nil_of_le (by omega)]; simp
    rw [h3] at h2
    have hL : L.toArray.toList = L := by simp
    rw [hL]
    exact h _ h2 (mod_setCells _ w b 0 L rfl) (size_setCells b L 0 w)
/-- A range of a block that is known whole. -/
theorem range_of_blk {w : World} {b : Nat} {cs : List Value} {e : TypeId} {fr : Nat × Nat} (h : w.heap[b]? = some (.cells cs.toArray e fr)) (o : Nat) (L : List Value) (hL : (cs.drop o).take L.length = L) : w.rangeAt b o L := by
  intro j v hj
  rw [blk_cell h]
  have hj' := (List.getElem?_eq_some_iff.1 hj).1
  rw [← hL, List.getElem?_take, if_pos hj', List.getElem?_drop] at hj
  exact hj
end

/-- Elements of one size, one behind the other. -/
theorem flat_get {α : Type} (f : α → List Value) (n : Nat) : ∀ (l : List α), (∀ x ∈ l, (f x).length = n) → ∀ (k : Nat) (hk : k < l.length) (j : Nat), j < n → (l.flatMap f)[k * n + j]? = (f l[k])[j]?
  | [], _, k, hk, _, _ => by simp at hk
  | x :: r, h, k, hk, j, hj => by
    have hx : (f x).length = n := h x (by simp)
    rw [List.flatMap_cons]
    match k, hk with
    | 0, _ =>
      rw [List.getElem?_append_left (by omega)]
      simp
    | k + 1, hk =>
      have hk' : k < r.length := by simpa using hk
      rw [List.getElem?_append_right (by rw [hx, Nat.succ_mul]; omega), hx]
      have e : (k + 1) * n + j - n = k * n + j := by rw [Nat.succ_mul]; omega
      rw [e, flat_get f n r (fun y hy => h y (by simp [hy])) k hk' j hj]
      simp
theorem flat_length {α : Type} (f : α → List Value) (n : Nat) : ∀ (l : List α), (∀ x ∈ l, (f x).length = n) → (l.flatMap f).length = l.length * n
  | [], _ => by simp
  | x :: r, h => by
    rw [List.flatMap_cons, List.length_append, h x (by simp), flat_length f n r (fun y hy => h y (by simp [hy])), List.length_cons, Nat.succ_mul, Nat.add_comm]
/-- An element of an owned row of elements of many cells. -/
theorem own_range {α : Type} {w : World} {base : Nat} {e : TypeId} {v : Value} {l : List α} {f : α → List Value} {n : Nat} (h : w.ownsRow base e n v l.length (l.flatMap f)) (hf : ∀ x ∈ l, (f x).length = n) (hn : 0 < n) (k : Nat) (hk : k < l.length) :
    ∃ g cap, v = .slice (some ⟨g, 0, none⟩) l.length cap ∧ base ≤ g ∧ g < w.heap.size ∧ l.length ≤ cap ∧ cap ≤ maxLen ∧ ∀ i (hi : i < l.length), w.rangeAt g (i * n) (f l[i]) := by
  rcases h.2 with ⟨_, h0⟩ | ⟨g, cap, cur, rfl, hb, hg, hnc, hcm, hcs, htk⟩
  · omega
  · refine ⟨g, cap, rfl, hb, blk_lt hg, hnc, hcm, fun i hi j u hj => ?_⟩
    have hj' := (List.getElem?_eq_some_iff.1 hj).1
    rw [hf _ (List.getElem_mem hi)] at hj'
    have h2 := flat_get f n l hf i hi j hj'
    rw [cell_of_row w g _ cur e (0, 0) hg]
    rw [← htk, hj] at h2
    have hlt : i * n + j < l.length * n := by
      have : (i + 1) * n ≤ l.length * n := Nat.mul_le_mul_right _ hi
      rw [Nat.succ_mul] at this; omega
    rw [List.getElem?_take, if_pos hlt] at h2
    simpa using h2
end Go.Proofs.Ytmcmocakfhedfaa
