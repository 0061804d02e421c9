/- What a call may turn: 'Mod F w w'': of the blocks that were there only those of F may have turned; what reads through other blocks reads as before. A row of cells, a map by integers. -/
import Derived.Test.YtmcmocakfhedfaaBase
import Derived.Maps.OwnSet
import Derived.Maps.OwnOps
import Derived.Maps.RangeWalk
import Derived.OneCell
namespace Go.Proofs.Ytmcmocakfhedfaa
open Go.RowKit

/-- Of what was there only the blocks of F may have turned. -/
structure Mod (F : Nat → Prop) (w w' : World) : Prop where
  os : w'.os = w.os
  tape : w'.tape = w.tape
  output : w'.output = w.output
  size : w.heap.size ≤ w'.heap.size
  block : ∀ k, k < w.heap.size → ¬ F k → w'.heap[k]? = w.heap[k]?
theorem Mod.refl (F : Nat → Prop) (w : World) : Mod F w w := ⟨rfl, rfl, rfl, Nat.le_refl _, fun _ _ _ => rfl⟩
theorem Mod.of_ext {F : Nat → Prop} {w w' : World} (h : Ext w w') : Mod F w w' :=
  ⟨Below.os (B := w.heap.size) h, Below.tape (B := w.heap.size) h, Below.output (B := w.heap.size) h, h.size, fun k hk _ => Below.block (B := w.heap.size) h k hk⟩
theorem Mod.mono {F G : Nat → Prop} {w w' : World} (h : Mod F w w') (hFG : ∀ k, F k → G k) : Mod G w w' := ⟨h.os, h.tape, h.output, h.size, fun k hk hg => h.block k hk (fun hf => hg (hFG k hf))⟩
/-- Two calls, one behind the other: the second may turn what the first may, and what is new. -/
theorem Mod.trans {F G : Nat → Prop} {a b c : World} (h : Mod F a b) (k : Mod G b c) (hG : ∀ i, i < a.heap.size → G i → F i) : Mod F a c :=
  ⟨k.os.trans h.os, k.tape.trans h.tape, k.output.trans h.output, Nat.le_trans h.size k.size, fun i hi hf => (k.block i (Nat.lt_of_lt_of_le hi h.size) (fun hg => hf (hG i hi hg))).trans (h.block i hi hf)⟩
theorem Mod.ext {F : Nat → Prop} {w0 w w' : World} (h0 : Ext w0 w) (h : Mod F w w') (hF : ∀ k, F k → w0.heap.size ≤ k) : Ext w0 w' :=
  Below.trans (B := w0.heap.size) h0 ⟨h.os, h.tape, h.output, h.size, fun k hk => h.block k (Nat.lt_of_lt_of_le hk h0.size) (fun hf => by have := hF k hf; omega)⟩
theorem Mod.grown {F : Nat → Prop} {w w' : World} {row : Option Nat} (hg : w.grownBy w' row) (hr : ∀ k, row = some k → k < w.heap.size → F k) : Mod F w w' :=
  ⟨hg.os, hg.tape, hg.output, hg.size, fun k hk hf => hg.block k hk (fun e => hf (hr k e.symm hk))⟩
theorem Mod.setCell {F : Nat → Prop} (w : World) (p : Addr) (u : Value) (hp : F p.block) : Mod F w (w.setCell p u) :=
  ⟨rfl, rfl, rfl, by simp, fun k _ hf => Below.heap_setCell _ _ _ _ (fun e => hf (e ▸ hp))⟩
theorem Mod.cell {F : Nat → Prop} {w w' : World} (h : Mod F w w') {p : Addr} {v : Value} (hc : w.cell? p = some v) (hp : ¬ F p.block) : w'.cell? p = some v :=
  (World.cell?_of_block (h.block p.block (World.block_lt_of_cell? w p hc) hp)).trans hc

/-- The block through which a slice is read. -/
def Value.at_ : Value → Option Nat
  | .slice (some a) _ _ => some a.block
  | _ => none
theorem Reads.mod {F : Nat → Prop} {w w' : World} {v : Value} {cs : List Value} (h : Reads w v cs) (hm : Mod F w w') (hv : ∀ k, v.ownBlock = some k → ¬ F k) : Reads w' v cs := by
  obtain ⟨a, cap, rfl, h1, h2, hn, h3, h4⟩ := h
  refine ⟨a, cap, rfl, h1, h2, hn, h3, ?_⟩
  rcases h4 with h4 | ⟨b, off, rfl, hc⟩
  · exact .inl h4
  · exact .inr ⟨b, off, rfl, fun j u hj => hm.cell (hc j u hj) (hv b rfl)⟩
theorem ownsRow_mod {F : Nat → Prop} {w w' : World} {base : Nat} {e : TypeId} {size : Nat} {v : Value} {n : Nat} {xs : List Value} (h : w.ownsRow base e size v n xs) (hm : Mod F w w') (hv : ∀ k, v.ownBlock = some k → ¬ F k) : w'.ownsRow base e size v n xs := by
  obtain ⟨h1, h2⟩ := h
  refine ⟨h1, ?_⟩
  rcases h2 with h2 | ⟨g, cap, cur, rfl, hg, hh, r⟩
  · exact Or.inl h2
  · refine Or.inr ⟨g, cap, cur, rfl, hg, ?_, r⟩
    have hlt : g < w.heap.size := by
      rcases Nat.lt_or_ge g w.heap.size with h' | h'
      · exact h'
      · rw [Array.getElem?_eq_none h'] at hh; cases hh
    exact (hm.block g hlt (hv g rfl)).trans hh
theorem ownsRow_base {w : World} {base base' : Nat} {e : TypeId} {size : Nat} {v : Value} {n : Nat} {xs : List Value} (h : w.ownsRow base e size v n xs) (hb : ∀ k, v.ownBlock = some k → base' ≤ k) : w.ownsRow base' e size v n xs := by
  obtain ⟨h1, h2⟩ := h
  refine ⟨h1, ?_⟩
  rcases h2 with h2 | ⟨g, cap, cur, rfl, hg, r⟩
  · exact Or.inl h2
  · exact Or.inr ⟨g, cap, cur, rfl, hb g rfl, r⟩

/-! ### A block of cells that is known whole -/
theorem blk_cell {w : World} {b : Nat} {cs : List Value} {e : TypeId} {fr : Nat × Nat} (h : w.heap[b]? = some (.cells cs.toArray e fr)) (j : Nat) : w.cell? ⟨b, j, none⟩ = cs[j]? := by
  rw [cell_of_row w b j cs.toArray e fr h]; simp
theorem blk_free {w : World} {b : Nat} {cs : Array Value} {e : TypeId} (h : w.heap[b]? = some (.cells cs e (0, 0))) (j : Nat) : w.frozen? ⟨b, j, none⟩ = false := frozen_of_row w b j cs e h
theorem blk_set {w : World} {b : Nat} {cs : List Value} {e : TypeId} (h : w.heap[b]? = some (.cells cs.toArray e (0, 0))) (j : Nat) (u : Value) : (w.setCell ⟨b, j, none⟩ u).heap[b]? = some (.cells (cs.set j u).toArray e (0, 0)) := by
  have := heap_setCell_same w b j cs.toArray e u h
  simpa using this
theorem blk_lt {w : World} {b : Nat} {o : Obj} (h : w.heap[b]? = some o) : b < w.heap.size := (Array.getElem?_eq_some_iff.1 h).1
theorem blk_mod {F : Nat → Prop} {w w' : World} {b : Nat} {o : Obj} (h : w.heap[b]? = some o) (hm : Mod F w w') (hb : ¬ F b) : w'.heap[b]? = some o := (hm.block b (blk_lt h) hb).trans h

/-! ### A map by integers, its elements whatever values -/
def tok : Value → Option (DataW Value × List MemPlace) := fun v => some (.held v, [])
def untok : DataW Value → Option Value
  | .held v => some v
  | _ => none
def MapAt (P : Program) (kt : TypeId) (w : World) (m : Nat) (f : Int → Option Value) : Prop :=
  ∃ n D, w.ownsMap P kt tok m n D ∧ ∀ k : Int, f k = if Maps.has D (.int .i64 k) then untok (D.atKey (.int .i64 k) .nil) else none

section
variable {P : Program} {kt : TypeId} {w : World} {m : Nat} {f : Int → Option Value}
theorem MapAt.made (w : World) (P : Program) (kt : TypeId) : MapAt P kt (w.alloc (.map #[] 0)) w.heap.size (fun _ => none) :=
  ⟨0, _, World.ownsMap_made w P kt tok, fun k => rfl⟩
theorem MapAt.lt (h : MapAt P kt w m f) : m < w.heap.size := let ⟨_, _, h, _⟩ := h; h.lt
theorem MapAt.mod {F : Nat → Prop} {w' : World} (h : MapAt P kt w m f) (hm : Mod F w w') (hF : ¬ F m) : MapAt P kt w' m f := by
  obtain ⟨n, D, ho, hf⟩ := h
  have hlt := ho.lt
  obtain ⟨es, clock, hb, r⟩ := ho
  exact ⟨n, D, ⟨es, clock, (hm.block m hlt hF).trans hb, r⟩, hf⟩
theorem MapAt.block (h : MapAt P kt w m f) : ∃ es clock, w.heap[m]? = some (.map es clock) := by
  obtain ⟨n, D, ⟨es, clock, hb, _⟩, hf⟩ := h
  exact ⟨es, clock, hb⟩
theorem i64_wf {k : Int} (h1 : -9223372036854775808 ≤ k) (h2 : k ≤ 9223372036854775807) : (Lit.int .i64 k).wf = true := WalkArith.wf_i64 ⟨h1, h2⟩
/-- 'm[k]'. -/
theorem MapAt.get (h : MapAt P kt w m f) (hk : P.underlying kt = some (.int .i64)) {t e : TypeId} (ht : P.underlying t = some (.map kt e)) {z : Value} (hz : (zeroValue e).run P w = .ok z w)
    (k : Int) (h1 : -9223372036854775808 ≤ k) (h2 : k ≤ 9223372036854775807) : (Instr.lookup t (.map (some m)) (.int .i64 k) false).run P w = .ok ((f k).getD z) w := by
  obtain ⟨n, D, ho, hf⟩ := h
  obtain ⟨v, ps, hrun, hv⟩ := ho.lookup (Maps.int_keyed hk) ht hz (zd := .held z) (zp := []) rfl (Maps.keyOf_int_mk hk (i64_wf h1 h2))
  rw [hrun, hf k]
  have hv2 : (DataW.held v : DataW Value) = D.atKey (.int .i64 k) (.held z) := by
    simp only [tok, Option.some.injEq, Prod.mk.injEq] at hv; exact hv.1
  cases hh : Maps.has D (.int .i64 k) with
  | false =>
    rw [Maps.atKey_of_not_has hh] at hv2
    have : v = z := by injection hv2
    subst this; rfl
  | true =>
    have : D.atKey (.int .i64 k) .nil = D.atKey (.int .i64 k) (.held z) := by
      cases D with
      | map es =>
        simp only [Maps.has_eq] at hh
        simp only [DataW.atKey]
        cases hfi : es.find? (fun p => p.1.sameKey (.int .i64 k)) with
        | some p => rfl
        | none =>
          rw [List.find?_eq_none] at hfi
          rw [List.any_eq_true] at hh
          obtain ⟨p, hp, hp2⟩ := hh
          exact absurd hp2 (hfi p hp)
      | _ => simp [Maps.has] at hh
    rw [this, ← hv2]; rfl
/-- What the entries are. -/
theorem MapAt.entries {n : Nat} {D : DataW Value} (ho : w.ownsMap P kt tok m n D) (hk : P.underlying kt = some (.int .i64)) :
    ∃ ES : List (Lit × DataW Value), D = .map ES ∧ ES.Pairwise (fun p q => p.1 ≠ q.1) ∧ ∀ p ∈ ES, ∃ k v, p = (.int .i64 k, .held v) ∧ (Lit.int .i64 k).wf = true := by
  obtain ⟨es, clock, hb, F, hs, rfl⟩ := ho
  refine ⟨_, rfl, ?_, ?_⟩
  · exact ((WideShapes.sorted_perm _).pairwise_iff (fun {_ _} hne => Ne.symm hne)).2 (Maps.fit_apart (Maps.int_keyed hk) F)
  · intro p hp
    have hp2 := (WideShapes.sorted_perm _).mem_iff.1 hp
    obtain ⟨x, hx, rfl⟩ := List.mem_map.1 hp2
    obtain ⟨y, hy⟩ := F.reads x hx
    rw [WideElems.rg_of hy]
    have hkey := WideElems.rd_key hy
    obtain ⟨z, hz, hz2⟩ := WideElems.rd_val hy
    obtain ⟨k, _, hk2, hw⟩ := Maps.keyOf_int_inv hk hkey
    refine ⟨k, x.val, ?_, hw⟩
    have : z = (.held x.val, []) := by simpa [tok] using hz.symm
    subst this
    exact Prod.ext hk2 hz2

theorem nodup_lt (N : Nat) : ∀ l : List Nat, l.Nodup → (∀ x ∈ l, x < N) → l.length ≤ N := by
  induction N with
  | zero =>
    intro l _ h
    cases l with
    | nil => simp
    | cons x r => exact absurd (h x (by simp)) (by omega)
  | succ N ih =>
    intro l hn h
    have h1 := ih (l.erase N) (hn.erase N) (fun x hx => by
      have h2 := h x (List.mem_of_mem_erase hx)
      have h3 : x ≠ N := fun e => by subst e; exact hn.not_mem_erase hx
      omega)
    have h4 := List.length_erase (a := N) (l := l)
    split at h4 <;> omega

theorem MapAt.size_le {n : Nat} {D : DataW Value} (ho : w.ownsMap P kt tok m n D) (hk : P.underlying kt = some (.int .i64))
    (hf : ∀ k : Int, f k = if Maps.has D (.int .i64 k) then untok (D.atKey (.int .i64 k) .nil) else none) (N : Nat) (hN : ∀ k v, f k = some v → 0 ≤ k ∧ k < (N : Int)) : Maps.size D ≤ N := by
  obtain ⟨ES, rfl, hpw, hall⟩ := MapAt.entries ho hk
  have hkeys : ∀ p ∈ ES, ∃ j : Nat, j < N ∧ p.1 = .int .i64 (j : Int) := by
    intro p hp
    obtain ⟨k, v, rfl, hw⟩ := hall p hp
    have hmem : (DataW.map ES).atKey (.int .i64 k) .nil = .held v := WideAt.atKey_mem _ (by trivial) hpw hp
    have hhas : Maps.has (DataW.map ES) (.int .i64 k) = true := by
      cases hh : Maps.has (DataW.map ES) (.int .i64 k) with
      | true => rfl
      | false =>
        rw [Maps.atKey_of_not_has hh] at hmem
        cases hmem
    have h := hf k
    rw [hhas, if_pos rfl, hmem] at h
    obtain ⟨h0, h1⟩ := hN k v h
    exact ⟨k.toNat, by omega, by simp only [Int.toNat_of_nonneg h0]⟩
  have key : ∀ l : List (Lit × DataW Value), (∀ p ∈ l, ∃ j : Nat, j < N ∧ p.1 = .int .i64 (j : Int)) → ∃ js : List Nat, l.map Prod.fst = js.map (fun j : Nat => Lit.int .i64 (j : Int)) ∧ ∀ j ∈ js, j < N := by
    intro l
    induction l with
    | nil => intro _; exact ⟨[], rfl, by simp⟩
    | cons p r ih =>
      intro h
      obtain ⟨js, e, hj⟩ := ih (fun q hq => h q (by simp [hq]))
      obtain ⟨j, hjN, hp⟩ := h p (by simp)
      exact ⟨j :: js, by rw [List.map_cons, List.map_cons, hp, e], by intro x hx; rcases List.mem_cons.1 hx with rfl | hx; exact hjN; exact hj x hx⟩
  obtain ⟨js, e, hj⟩ := key ES hkeys
  have hnd : (ES.map Prod.fst).Nodup := by
    rw [List.Nodup, List.pairwise_map]; exact hpw
  rw [e] at hnd
  have hnd2 : js.Nodup := by
    rw [List.Nodup, List.pairwise_map] at hnd
    exact hnd.imp (fun {a b} h (e : a = b) => h (by rw [e]))
  have hl := nodup_lt N js hnd2 hj
  have : ES.length = js.length := by simpa using congrArg List.length e
  simp only [Maps.size_eq]; omega

/-- 'm[k] = v'. -/
theorem MapAt.set (h : MapAt P kt w m f) (hk : P.underlying kt = some (.int .i64)) {t e : TypeId} (ht : P.underlying t = some (.map kt e)) (N : Nat) (hN : ∀ k v, f k = some v → 0 ≤ k ∧ k < (N : Int)) (hNm : N < 4611686018427387904)
    (k : Int) (h1 : -9223372036854775808 ≤ k) (h2 : k ≤ 9223372036854775807) (val : Value) :
    ∃ w', (Instr.mapUpdate t (.map (some m)) (.int .i64 k) val).run P w = .ok () w' ∧ MapAt P kt w' m (fun j => if j = k then some val else f j) ∧ w.grownBy w' (some m) := by
  obtain ⟨n, D, ho, hf⟩ := h
  have hsz := MapAt.size_le ho hk hf N hN
  have ho2 : w.ownsMap P kt tok m (Maps.size D) D := by
    obtain ⟨es, clock, hb, F, hs, rfl⟩ := ho
    exact ⟨es, clock, hb, F, by simp [Maps.size, length_sorted], rfl⟩
  have htidy := ho2.tidy (Maps.int_keyed hk)
  obtain ⟨w', hrun, ho3, hg⟩ := ho2.update (Maps.int_keyed hk) ht (by unfold maxLen; omega) (key := .int .i64 k) (val := val) (Maps.keyOf_int_mk hk (i64_wf h1 h2)) (d := .held val) (ps := []) rfl
  refine ⟨w', hrun, ⟨_, _, ho3, fun j => ?_⟩, hg⟩
  by_cases hj : j = k
  · subst hj
    simp only [if_pos]
    rw [Maps.has_put_same htidy.isMap (by trivial), if_pos rfl, Maps.atKey_put_same htidy.isMap (by trivial)]; rfl
  · have hne : (Lit.int .i64 j) ≠ (Lit.int .i64 k) := fun e => hj (by injection e)
    simp only [if_neg hj]
    rw [Maps.has_put_other hne, Maps.atKey_put_other hne]; exact hf j
end
end Go.Proofs.Ytmcmocakfhedfaa
