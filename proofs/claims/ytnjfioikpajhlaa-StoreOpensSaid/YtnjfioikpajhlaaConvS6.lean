import Derived.Test.YtnjfioikpajhlaaRefF6
import Derived.Lib.ConvBytes
/- '[]byte(s)' of a string that is no constant: longer texts, drawn regions (the store seat). -/
namespace Go.Proofs.Ytnjfioikpajhlaa
open Go.RowKit

theorem xor_u8c (x : UInt8) (m : Int) (h1 : 0 ≤ m) (h2 : m < 256) : bits BinOp.xor IntKind.u8 (x.toNat : Int) m = ((x ^^^ UInt8.ofNat m.toNat).toNat : Int) := by
  obtain ⟨k, rfl⟩ : ∃ k : Nat, m = (k : Int) := ⟨m.toNat, by omega⟩
  have hx := x.toNat_lt
  have e1 : (BitVec.ofInt 8 (x.toNat : Int)).toNat = x.toNat := by
    rw [BitVec.ofInt_natCast, BitVec.toNat_ofNat]; exact Nat.mod_eq_of_lt (by omega)
  have e2 : (BitVec.ofInt 8 (k : Int)).toNat = k := by
    rw [BitVec.ofInt_natCast, BitVec.toNat_ofNat]; exact Nat.mod_eq_of_lt (by omega)
  have hb : x.toNat ^^^ k < 2 ^ 8 := Nat.xor_lt_two_pow (by omega) (by omega)
  show IntKind.u8.wrap ((BitVec.ofInt 8 (x.toNat : Int) ^^^ BitVec.ofInt 8 (k : Int)).toNat : Int) = _
  rw [BitVec.toNat_xor, e1, e2, IntKind.wrap_u8', UInt8.toNat_xor]
  have e3 : (UInt8.ofNat (k : Int).toNat).toNat = k := by simp; omega
  rw [e3]
  omega
theorem conv_ext (w : World) (s : ByteArray) : Ext w (Lib.bytesWorld w 5 s) :=
  ⟨by simp [Lib.bytesWorld, World.freeze, World.alloc, World.drew, -World.alloc_eq, -World.drew_eq], by simp [Lib.bytesWorld, World.freeze, World.alloc, World.drew, -World.alloc_eq, -World.drew_eq], by simp [Lib.bytesWorld, World.freeze, World.alloc, World.drew, -World.alloc_eq, -World.drew_eq], by rw [Lib.bytesWorld_size]; omega, fun k hk => Lib.bytesWorld_at_old w _ s k hk⟩
theorem conv_bs (w : World) (s : List UInt8) (_hl : s.length ≤ 4000000000000000000) (cap : Nat) (hc : s.length ≤ cap) (hm : cap ≤ maxLen) : Bs (Lib.bytesWorld w 5 ⟨s.toArray⟩) (.slice (some ⟨w.heap.size, 0, none⟩) s.length cap) s := by
  refine ⟨_, cap, by rw [List.length_map], by rw [List.length_map]; exact hc, hm, (fun h => by cases h), (fun u hu => by obtain ⟨x, _, rfl⟩ := List.mem_map.1 hu; rfl), .inr ⟨_, 0, rfl, fun j u hj => ?_⟩⟩
  have hj' : j < s.length := by have := (List.getElem?_eq_some_iff.1 hj).1; rw [List.length_map] at this; exact this
  rw [Nat.zero_add, Lib.bytesWorld_cell w _ _ j (by show j < s.toArray.size; rw [List.size_toArray]; exact hj'), ← hj, List.getElem?_map, List.getElem?_eq_getElem hj']
  show some _ = some _
  congr 1
  show Value.int .u8 ((s.getD j 0).toNat : Int) = byteVal s[j]
  rw [List.getD_eq_getElem?_getD, List.getElem?_eq_getElem hj']
  rfl
theorem conv_frozen (w : World) (s : ByteArray) (j : Nat) (hj : j < s.size) : (Lib.bytesWorld w 5 s).frozen? ⟨w.heap.size, j, none⟩ = false := by
  have h : j < (Lib.bytesCells w 5 s).size := by unfold Lib.bytesCells; simp; omega
  simp [World.frozen?, Lib.bytesWorld_at_new]
  omega
theorem cap_le (w : World) (n : Nat) : n ≤ grownCap w n 0 5 := grownCap_ge w n 0 _
section
variable {ops : Array Oper} {rest : List Oper} {o : Oper} {a : Act} {Q : Exit → Act → World → Prop}
theorem wpl_conv (w : World) (hgd : o.guard = none) (x : Operand) (hop : o.op = .convert 9 59 x) (s : List UInt8) (hx : a.eval x = .string ⟨s.toArray⟩) (hl : s.length ≤ 4000000000000000000)
    (h : ∀ cap w', Ext w w' → Bs w' (.slice (some ⟨w.heap.size, 0, none⟩) s.length cap) s → (∀ j, j < s.length → w'.frozen? ⟨w.heap.size, j, none⟩ = false) → w.heap.size < w'.heap.size → wpList Try.prog ops Q rest (a.put o.dst (.slice (some ⟨w.heap.size, 0, none⟩) s.length cap)) w') : wpList Try.prog ops Q (o :: rest) a w := by
  refine wpList_plain hgd fun K hK => ?_
  have hr := Lib.run_convert_string_bytes (P := Try.prog) w 9 59 5 ⟨s.toArray⟩ Try.underlying9 Try.underlying59 Try.underlying5
  have hsz : (⟨s.toArray⟩ : ByteArray).size = s.length := by show s.toArray.size = _; rw [List.size_toArray]
  unfold Oper.wp execOp
  simp only [hop, hx, Sem.run_bind, Sem.run_pure, Result.andThen_ok, hr, hsz]
  exact hK _ _ (h _ _ (conv_ext w _) (conv_bs w s hl _ (cap_le w _) (grownCap_le_maxLen w _ 0 _ (by unfold maxLen; omega))) (fun j hj => conv_frozen w _ j (by rw [hsz]; exact hj)) (by rw [Lib.bytesWorld_size]; omega))
theorem step_conv {K : Act → World → Prop} {F : Prop} (w : World) (hgd : o.guard = none) (x : Operand) (hop : o.op = .convert 9 59 x) (s : List UInt8) (hx : a.eval x = .string ⟨s.toArray⟩) (hl : s.length ≤ 4000000000000000000)
    (h : ∀ cap w', Ext w w' → Bs w' (.slice (some ⟨w.heap.size, 0, none⟩) s.length cap) s → (∀ j, j < s.length → w'.frozen? ⟨w.heap.size, j, none⟩ = false) → w.heap.size < w'.heap.size → K (a.put o.dst (.slice (some ⟨w.heap.size, 0, none⟩) s.length cap)) w') : if Region.wanted o (yielded ops a.tmps) = true then Oper.wp Try.prog o a w K Q else F := by
  have hw : Region.wanted o (yielded ops a.tmps) = true := by simp [Region.wanted, hgd]
  rw [if_pos hw]
  have hr := Lib.run_convert_string_bytes (P := Try.prog) w 9 59 5 ⟨s.toArray⟩ Try.underlying9 Try.underlying59 Try.underlying5
  have hsz : (⟨s.toArray⟩ : ByteArray).size = s.length := by show s.toArray.size = _; rw [List.size_toArray]
  unfold Oper.wp execOp
  simp only [hop, hx, Sem.run_bind, Sem.run_pure, Result.andThen_ok, hr, hsz]
  exact h _ _ (conv_ext w _) (conv_bs w s hl _ (cap_le w _) (grownCap_le_maxLen w _ 0 _ (by unfold maxLen; omega))) (fun j hj => conv_frozen w _ j (by rw [hsz]; exact hj)) (by rw [Lib.bytesWorld_size]; omega)
end
/-- A byte of what reads is set. -/
theorem Bs.poke {w : World} {g n cap : Nat} {l : List UInt8} (h : Bs w (.slice (some ⟨g, 0, none⟩) n cap) l) (j : Nat) (hj : j < l.length) (x : UInt8) : Bs (w.setCell ⟨g, j, none⟩ (byteVal x)) (.slice (some ⟨g, 0, none⟩) n cap) (l.set j x) := by
  obtain ⟨a, cap', hv, h1, h2, h3, h4, h5⟩ := h
  obtain ⟨rfl, hn, rfl⟩ := Value.slice.inj hv
  rw [List.length_map] at hn h1
  refine ⟨_, cap, by rw [List.length_map, List.length_set, hn], by rw [List.length_map, List.length_set]; exact h1, h2, (fun e => by cases e), (fun u hu => by obtain ⟨y, _, rfl⟩ := List.mem_map.1 hu; rfl), .inr ⟨g, 0, rfl, fun i u hi => ?_⟩⟩
  rcases h5 with h5 | ⟨b, off, hb, hc⟩
  · rw [List.map_eq_nil_iff.1 h5] at hj; cases hj
  · obtain ⟨rfl, rfl, _⟩ := Addr.mk.inj (Option.some.inj hb)
    rw [Nat.zero_add]
    by_cases he : i = j
    · subst he
      have h6 := hc i (byteVal l[i]) (by rw [List.getElem?_map, List.getElem?_eq_getElem hj]; rfl)
      rw [Nat.zero_add] at h6
      rw [World.cell?_setCell_same _ _ _ h6, ← hi, List.getElem?_map, List.getElem?_eq_getElem (by rw [List.length_set]; exact hj), List.getElem_set_self]
      rfl
    · rw [World.cell?_setCell_other _ _ _ _ (by intro e; exact he (Addr.mk.inj e).2.1.symm)]
      rw [List.getElem?_map, List.getElem?_set_ne (fun e => he e.symm), ← List.getElem?_map] at hi
      have h6 := hc i u hi
      rw [Nat.zero_add] at h6
      exact h6
end Go.Proofs.Ytnjfioikpajhlaa
