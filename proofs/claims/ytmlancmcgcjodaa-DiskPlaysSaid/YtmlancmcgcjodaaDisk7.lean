/- Rows of many cells appended; maps.Clone. -/
import Derived.Test.YtmlancmcgcjodaaDisk5
import Derived.Shelf.SlMaps.Clone
import Derived.Laws.AppendOwnNone
namespace Go.Proofs.Ytmlancmcgcjodaa
open Go.RowKit

section
variable {P : Program} {ops : Array Oper} {rest : List Oper} {o : Oper} {a : Act} {Q : Exit → Act → World → Prop}
/-- 'append(v, x...)': x an owned row of elements of many cells. -/
theorem wpl_append_row (w : World) (hgd : o.guard = none) (s x : Operand) (t : TypeId)
    (ho : o.op = .call { callee := .builtin .append, args := #[s, x], argTypes := #[t, t] })
    (base : Nat) (e : TypeId) (i : TypeInfo) (z : Value) (size bytes : Nat) (ht : P.underlying t = some (.slice e)) (hi : P.info? e = some i) (hz : i.zero = some z)
    (hsize : i.size = size) (hby : i.bytes = bytes) (hzs : z.cells.size = size) (hsz : 0 < size)
    (v : Value) (n : Nat) (xs : List Value) (hs : a.eval s = v) (hown : w.ownsRow base e size v n xs)
    (y : Value) (m : Nat) (ys : List Value) (base2 : Nat) (hx : a.eval x = y) (hr : w.ownsRow base2 e size y m ys) (h1 : ∀ u ∈ ys, u.oneCell' = true)
    (h63 : n + m ≤ maxLen) (hbytes : (n + m) * bytes ≤ 140737488355328) (hbase : base ≤ w.heap.size)
    (h : ∀ v' w', w'.ownsRow base e size v' (n + m) (xs ++ ys) → w.grownBy w' v.ownBlock → wpList P ops Q rest (a.put o.dst v') w') : wpList P ops Q (o :: rest) a w := by
  obtain ⟨hl, hr2⟩ := hr
  rcases hr2 with ⟨rfl, rfl⟩ | ⟨g, cap, cur, rfl, _, hh, hnc, hcm, hcs, htk⟩
  · obtain rfl : ys = [] := List.eq_nil_of_length_eq_zero (by omega)
    refine wpList_append_own_none hgd s x t ho base e i size ht hi v n xs hs hown hx (h v w (by simpa using hown) (World.grownBy.refl _ _))
  · refine wpList_append_own w hgd s x t ho base e i z size bytes ht hi hz hsize hby hzs hsz v n xs hs hown ⟨g, 0, none⟩ m cap ys hx hl ?_ h1 h63 hbytes hbase (fun v' w' a b _ => h v' w' a b)
    intro j u hj
    rw [Addr.add_lit, cell_of_row w g _ cur e (0, 0) hh]
    rw [← htk, List.getElem?_take] at hj
    split at hj
    · simpa using hj
    · cases hj
end

theorem MapAt.clone {P : Program} {kt : TypeId} {w : World} {m : Nat} {f : Int → Option Value} (h : MapAt P kt w m f) : ∃ es clock, w.heap[m]? = some (.map es clock) ∧ ∀ w', w'.heap[w.heap.size]? = some (.map es clock) → MapAt P kt w' w.heap.size f := by
  obtain ⟨n, D, ⟨es, clock, hb, F, hs, hD⟩, hf⟩ := h
  exact ⟨es, clock, hb, fun w' hw => ⟨n, D, ⟨es, clock, hw, F, hs, hD⟩, hf⟩⟩

set_option maxRecDepth 100000 in
set_option maxHeartbeats 800000 in
theorem maps_clone (w : World) (m : Nat) (es : Array MapEntry) (clock : Nat) (hb : w.heap[m]? = some (.map es clock)) :
    Calls Try.prog 28 #[.map (some m)] w fun e w' => e = .returned (.map (some w.heap.size)) ∧ w' = w.alloc (.map es clock) := by
  have hq := fun w => run_eql_map_nil_sl (P := Try.prog) w 59 _ _ (some m) Try.underlying59
  go_enter Try.func28, Try.ntmps28
  go_wp2
  rw [run_callFunc_extern Try.func35 (by kernel_rfl) (by kernel_rfl) (by kernel_rfl) (e := Extern.MapsClone.clone) (by kernel_rfl), run_maps_clone_sl w 59 hb]
  simp only [Result.andThen]
  rw [Oper.upon_value]
  go_wp2
  rw [run_typeAssert_map_sl _ 59 20 _ _ _ Try.underlying59]
  simp only [Result.andThen]
  rw [Oper.upon_value]
  go_wp2
  go_ret
  exact ⟨rfl, rfl⟩

end Go.Proofs.Ytmlancmcgcjodaa
