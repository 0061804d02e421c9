/- Words and laws on worlds that all walks of this seat use: what a slice reads, what a call leaves as it was, make, copy and append on memory of the call's own. -/
import Derived.WalkKit
import Derived.WalkLawsBesides
import Derived.WalkSpells
import Derived.Laws.CopyOwn
import Derived.Laws.AppendOwnNone
import Derived.Lib.Hide
import Derived.Lib.SlBytesConst
import Derived.Lib.SmallJoins
namespace Go.Proofs.Ytmcmocakfhedfaa
open Go.RowKit

/-- w' is w with new blocks: nothing that was there has turned. -/
def Ext (w w' : World) : Prop := Below w.heap.size w w'
theorem Ext.refl (w : World) : Ext w w := Below.refl _ _
theorem Ext.trans {a b c : World} (h : Ext a b) (k : Ext b c) : Ext a c := Below.trans (B := a.heap.size) h (Below.mono (B := b.heap.size) k (Below.size (B := a.heap.size) h))
theorem Ext.alloc {a w : World} (h : Ext a w) (o : Obj) : Ext a (w.alloc o) := Below.alloc h (Below.size (B := a.heap.size) h) o
theorem Ext.drew {a w : World} (h : Ext a w) : Ext a w.drew := Below.drew h
theorem Ext.size {a w : World} (h : Ext a w) : a.heap.size ≤ w.heap.size := Below.size (B := a.heap.size) h
theorem Ext.of_alloc (w : World) (o : Obj) : Ext w (w.alloc o) := (Ext.refl w).alloc o
theorem Ext.of_drew (w : World) : Ext w w.drew := (Ext.refl w).drew
theorem Ext.cell {w w' : World} (h : Ext w w') {p : Addr} {v : Value} (hc : w.cell? p = some v) : w'.cell? p = some v :=
  (Below.cell (B := w.heap.size) h (World.block_lt_of_cell? w p hc)).trans hc
theorem Ext.below {w w' : World} (h : Ext w w') {B : Nat} (hB : B ≤ w.heap.size) : Below B w w' := Below.mono (B := w.heap.size) h hB
theorem Ext.grown {w0 w w' : World} {row : Option Nat} (h : Ext w0 w) (hg : w.grownBy w' row) (hr : ∀ k, row = some k → w0.heap.size ≤ k) : Ext w0 w' := Below.grown (B := w0.heap.size) h hg h.size hr
theorem Ext.of_below {B : Nat} {w0 w : World} (h : Below B w0 w) (hB : w0.heap.size ≤ B) : Ext w0 w := h.mono hB
theorem Ext.keptOwn {w w' : World} (h : Ext w w') {base : Nat} {e : TypeId} {size : Nat} {v : Value} {n : Nat} {xs : List Value} (ho : w.ownsRow base e size v n xs) : w'.ownsRow base e size v n xs := by
  obtain ⟨h1, h2⟩ := ho
  refine ⟨h1, ?_⟩
  rcases h2 with h2 | ⟨g, cap, cur, hv, hg, hh, r⟩
  · exact Or.inl h2
  · refine Or.inr ⟨g, cap, cur, hv, hg, ?_, r⟩
    have hlt : g < w.heap.size := by
      rcases Nat.lt_or_ge g w.heap.size with h' | h'
      · exact h'
      · rw [Array.getElem?_eq_none h'] at hh; cases hh
    exact (Below.block (B := w.heap.size) h g hlt).trans hh

/-- The slice value v reads as the cells cs. -/
def Reads (w : World) (v : Value) (cs : List Value) : Prop :=
  ∃ a cap, v = .slice a cs.length cap ∧ cs.length ≤ cap ∧ cap ≤ maxLen ∧ (a = none → cap = 0) ∧ (∀ u ∈ cs, u.oneCell' = true) ∧
    (cs = [] ∨ ∃ b off, a = some ⟨b, off, none⟩ ∧ ∀ j u, cs[j]? = some u → w.cell? ⟨b, off + j, none⟩ = some u)

theorem Reads.ext {w w' : World} {v : Value} {cs : List Value} (h : Reads w v cs) (he : Ext w w') : Reads w' v cs := by
  obtain ⟨a, cap, hv, h1, h2, hn, h3, h4⟩ := h
  refine ⟨a, cap, hv, h1, h2, hn, h3, ?_⟩
  rcases h4 with h4 | ⟨b, off, hb, hc⟩
  · exact .inl h4
  · exact .inr ⟨b, off, hb, fun j u hj => he.cell (hc j u hj)⟩

theorem Reads.nil (w : World) : Reads w (.slice none 0 0) [] := ⟨none, 0, rfl, Nat.le_refl _, by unfold maxLen; omega, fun _ => rfl, by simp, .inl rfl⟩

theorem Reads.of_own {w : World} {base : Nat} {e : TypeId} {v : Value} {n : Nat} {xs : List Value} (h : w.ownsRow base e 1 v n xs) (h1 : ∀ u ∈ xs, u.oneCell' = true) : Reads w v xs := by
  obtain ⟨hl, h2⟩ := h
  obtain rfl : n = xs.length := by omega
  rcases h2 with ⟨rfl, h0⟩ | ⟨g, cap, cur, rfl, hg, hh, hnc, hcm, hcs, ht⟩
  · obtain rfl : xs = [] := List.eq_nil_of_length_eq_zero h0
    exact Reads.nil w
  · refine ⟨_, cap, rfl, hnc, hcm, by simp, h1, .inr ⟨g, 0, rfl, fun j u hj => ?_⟩⟩
    have hj' : j < xs.length := (List.getElem?_eq_some_iff.1 hj).1
    rw [cell_of_row w g _ cur e (0, 0) hh, Nat.zero_add]
    rw [← ht, List.getElem?_take, if_pos (by omega)] at hj
    simpa using hj

/-- One new block with one cell reads as that cell. -/
theorem Reads.one (w : World) (u : Value) (e : TypeId) (h1 : u.oneCell' = true) : Reads (w.alloc (.cells #[u] e)) (.slice (some ⟨w.heap.size, 0, none⟩) 1 1) [u] := by
  refine ⟨_, 1, rfl, by simp, by unfold maxLen; omega, by simp, by simpa using h1, .inr ⟨_, 0, rfl, fun j u' hj => ?_⟩⟩
  match j, hj with
  | 0, hj => simp at hj; subst hj; rw [World.cell?_alloc_at _ _ _ _ rfl]; rfl

/-- A new block reads as its cells. -/
theorem Reads.row (w : World) (cs : List Value) (e : TypeId) (hl : cs.length ≤ maxLen) (h1 : ∀ u ∈ cs, u.oneCell' = true) : Reads (w.alloc (.cells cs.toArray e)) (.slice (some ⟨w.heap.size, 0, none⟩) cs.length cs.length) cs := by
  refine ⟨_, _, rfl, Nat.le_refl _, hl, by simp, h1, .inr ⟨_, 0, rfl, fun j u' hj => ?_⟩⟩
  rw [World.cell?_alloc_at _ _ _ _ rfl, Nat.zero_add]
  simpa using hj

/-- The same of a block whose row bears marks. -/
theorem Reads.rowM (w : World) (cs : List Value) (e : TypeId) (fr : Nat × Nat) (hl : cs.length ≤ maxLen) (h1 : ∀ u ∈ cs, u.oneCell' = true) : Reads (w.alloc (.cells cs.toArray e fr)) (.slice (some ⟨w.heap.size, 0, none⟩) cs.length cs.length) cs := by
  refine ⟨_, _, rfl, Nat.le_refl _, hl, by simp, h1, .inr ⟨_, 0, rfl, fun j u' hj => ?_⟩⟩
  rw [World.cell?_alloc_mark, Nat.zero_add]
  simpa using hj

/-- The slice value v reads as the bytes l. -/
def byteVal (b : UInt8) : Value := .int .u8 (b.toNat : Int)
def Bs (w : World) (v : Value) (l : List UInt8) : Prop := Reads w v (l.map byteVal)
theorem Bs.ext {w w' : World} {v : Value} {l : List UInt8} (h : Bs w v l) (he : Ext w w') : Bs w' v l := Reads.ext h he
theorem Bs.reads {w : World} {v : Value} {l : List UInt8} (h : Bs w v l) : Reads w v (l.map byteVal) := h
theorem Bs.nil (w : World) : Bs w (.slice none 0 0) [] := Reads.nil w
theorem bytes_one (l : List UInt8) : ∀ u ∈ l.map byteVal, u.oneCell' = true := by
  intro u hu
  obtain ⟨_, _, rfl⟩ := List.mem_map.1 hu
  rfl
/-- Opened: nothing; or a row of cells. -/
theorem Bs.open {w : World} {v : Value} {l : List UInt8} (h : Bs w v l) :
    (∃ a cap, v = .slice a 0 cap ∧ l = [] ∧ cap ≤ maxLen ∧ (a = none → cap = 0)) ∨
    (∃ b off cap, v = .slice (some ⟨b, off, none⟩) l.length cap ∧ 0 < l.length ∧ l.length ≤ cap ∧ cap ≤ maxLen ∧ b < w.heap.size ∧ ∀ i (h : i < l.length), w.cell? ⟨b, off + i, none⟩ = some (.int .u8 (l[i].toNat : Int))) := by
  obtain ⟨a, cap, hv, h1, h2, hn, h3, h4⟩ := h
  rw [List.length_map] at hv h1
  by_cases h0 : l = []
  · subst h0
    exact .inl ⟨a, cap, hv, rfl, h2, hn⟩
  · have hp : 0 < l.length := List.length_pos_iff.2 h0
    rcases h4 with h4 | ⟨b, off, rfl, hc⟩
    · simp [h0] at h4
    · have hc' : ∀ i (h : i < l.length), w.cell? ⟨b, off + i, none⟩ = some (.int .u8 (l[i].toNat : Int)) := fun i hi => hc i _ (by simp [hi, byteVal])
      refine .inr ⟨b, off, cap, hv, hp, h1, h2, ?_, hc'⟩
      exact World.block_lt_of_cell? w _ (hc' 0 hp)
theorem Bs.length_le {w : World} {v : Value} {l : List UInt8} (h : Bs w v l) : l.length ≤ 9223372036854775807 := by
  obtain ⟨a, cap, hv, h1, h2, _⟩ := h
  unfold maxLen at h2
  rw [List.length_map] at h1
  omega
theorem Bs.shape {w : World} {v : Value} {l : List UInt8} (h : Bs w v l) : ∃ a cap, v = .slice a l.length cap := by
  obtain ⟨a, cap, hv, _⟩ := h
  exact ⟨a, cap, by simpa using hv⟩
theorem Bs.of_own {w : World} {base : Nat} {e : TypeId} {v : Value} {n : Nat} {l : List UInt8} (h : w.ownsRow base e 1 v n (l.map byteVal)) : Bs w v l := Reads.of_own h (bytes_one l)

theorem Bs.lit (w : World) (l : List UInt8) (e : TypeId) (hl : l.length ≤ maxLen) : Bs (w.alloc (.cells (l.map byteVal).toArray e)) (.slice (some ⟨w.heap.size, 0, none⟩) l.length l.length) l := by
  have h := Reads.row w (l.map byteVal) e (by simpa using hl) (bytes_one l)
  rw [List.length_map] at h
  exact h
theorem Bs.litM (w : World) (l : List UInt8) (e : TypeId) (fr : Nat × Nat) (hl : l.length ≤ maxLen) : Bs (w.alloc (.cells (l.map byteVal).toArray e fr)) (.slice (some ⟨w.heap.size, 0, none⟩) l.length l.length) l := by
  have h := Reads.rowM w (l.map byteVal) e fr (by simpa using hl) (bytes_one l)
  rw [List.length_map] at h
  exact h
/-- 'string(b)'. -/
theorem Bs.toString {P : Program} {w : World} {v : Value} {l : List UInt8} (h : Bs w v l) (src dst e : TypeId) (hs : P.underlying src = some (.slice e)) (he : P.underlying e = some (.int .u8)) (hd : P.underlying dst = some .string) :
    (convert src dst v).run P w = .ok (.string ⟨l.toArray⟩) w := by
  obtain ⟨a, cap, hv, h1, h2, hn, h3, h4⟩ := h
  rw [List.length_map] at hv
  subst hv
  cases a with
  | none =>
    obtain rfl := hn rfl
    obtain rfl : l = [] := List.eq_nil_of_length_eq_zero (by simpa using h1)
    rw [List.length_nil, run_convert_bytes_nil w src e hs he 0 0 dst hd]
    rfl
  | some ad =>
    refine run_convert_bytes_back w src dst e ad cap l hs he hd fun j hj => ?_
    rcases h4 with h4 | ⟨b, off, hb, hc⟩
    · have : l = [] := by simpa using h4
      subst this; simp at hj
    · obtain rfl := Option.some.inj hb
      have h := hc j (byteVal l[j]) (by simp [hj])
      rw [Addr.add_lit]; exact h

section
variable {P : Program} {ops : Array Oper} {rest : List Oper} {o : Oper} {a : Act} {Q : Exit → Act → World → Prop}

theorem madeCells_one (z : Value) (n : Nat) : madeCells #[z] n = (List.replicate n z).toArray := by
  apply Array.ext
  · simp [madeCells]
  · intro i h1 h2
    simp [madeCells, Nat.mod_one]

/-- 'make([]T, n, m)' of an element of one cell. -/
theorem wpl_make (w : World) (hg : o.guard = none) (l c : Operand) (t : TypeId) (hop : o.op = Op.makeSlice t l c)
    (base : Nat) (e : TypeId) (i : TypeInfo) (z : Value) (h1 : P.underlying t = some (.slice e)) (h2 : P.info? e = some i) (h3 : i.zero = some z) (h4 : i.size = 1) (hz : z.cells = #[z])
    (kl kc : IntKind) (L C : Int) (n m : Nat) (hl : a.eval l = .int kl L) (hc : a.eval c = .int kc C) (hL : L = (n : Int)) (hC : C = (m : Int)) (hnm : n ≤ m) (b2 : i.bytes * m ≤ 281474976710656) (b3 : m ≤ maxLen) (b4 : base ≤ w.heap.size)
    (hK : ∀ w', w'.ownsRow base e 1 (.slice (some ⟨w.heap.size, 0, none⟩) n m) n (List.replicate n z) → Ext w w' → w.grownBy w' none → wpList P ops Q rest (a.put o.dst (.slice (some ⟨w.heap.size, 0, none⟩) n m)) w') :
    wpList P ops Q (o :: rest) a w := by
  refine wpList_plain hg fun K hK' => ?_
  subst hL hC
  have hb : (i.bytes : Int) * (m : Int) ≤ 281474976710656 := by
    have e : (i.bytes : Int) * (m : Int) = ((i.bytes * m : Nat) : Int) := by simp
    rw [e]; exact Int.ofNat_le.2 b2
  have hm : (m : Int) ≤ 9223372036854775807 := by unfold maxLen at b3; omega
  have hrun := run_make (P := P) (w := w) t e i z h1 h2 h3 kl kc (n : Int) (m : Int) (by omega) (by omega) hb hm
  rw [Int.toNat_natCast, Int.toNat_natCast, h4, Nat.mul_one, hz, madeCells_one] at hrun
  unfold Oper.wp
  simp [execOp, hop, hl, hc, hrun, Result.andThen]
  refine hK' _ _ (hK _ ?_ (Ext.of_alloc w _) (World.grownBy_alloc w _ none))
  refine ⟨by simp, .inr ⟨w.heap.size, m, (List.replicate m z).toArray, rfl, b4, heap_alloc_new w _, hnm, b3, by simp, ?_⟩⟩
  simp [List.take_replicate, hnm]

/-- 'append(v, x...)', v the call's own, x whatever reads. -/
theorem wpl_append (w : World) (hgd : o.guard = none) (s x : Operand) (t : TypeId)
    (ho : o.op = .call { callee := .builtin .append, args := #[s, x], argTypes := #[t, t] })
    (base : Nat) (e : TypeId) (i : TypeInfo) (z : Value) (bytes : Nat) (ht : P.underlying t = some (.slice e)) (hi : P.info? e = some i) (hz : i.zero = some z)
    (hsize : i.size = 1) (hby : i.bytes = bytes) (hzs : z.cells.size = 1)
    (v : Value) (n : Nat) (xs : List Value) (hs : a.eval s = v) (hown : w.ownsRow base e 1 v n xs)
    (y : Value) (ys : List Value) (hx : a.eval x = y) (hr : Reads w y ys)
    (h63 : n + ys.length ≤ maxLen) (hbytes : (n + ys.length) * bytes ≤ 140737488355328) (hbase : base ≤ w.heap.size)
    (h : ∀ v' w', w'.ownsRow base e 1 v' (n + ys.length) (xs ++ ys) → w.grownBy w' v.ownBlock → wpList P ops Q rest (a.put o.dst v') w') : wpList P ops Q (o :: rest) a w := by
  obtain ⟨ad, cap, rfl, h1, h2, hn, h3, h4⟩ := hr
  cases ad with
  | none =>
    obtain rfl := hn rfl
    obtain rfl : ys = [] := List.eq_nil_of_length_eq_zero (by omega)
    refine wpList_append_own_none hgd s x t ho base e i 1 ht hi v n xs hs hown hx (h v w (by simpa using hown) (World.grownBy.refl _ _))
  | some ad =>
    refine wpList_append_own w hgd s x t ho base e i z 1 bytes ht hi hz hsize hby hzs (by omega) v n xs hs hown ad ys.length cap ys hx (by omega) ?_ h3 h63 hbytes hbase (fun v' w' a b _ => h v' w' a b)
    intro j u hj
    rcases h4 with rfl | ⟨b, off, hb, hc⟩
    · simp at hj
    · obtain rfl := Option.some.inj hb
      rw [Addr.add_lit]
      exact hc j u hj

/-- 'copy(d, s)', d the call's own and as long as s at least. -/
theorem wpl_copy (w : World) (hgd : o.guard = none) (d s : Operand) (dT sT : TypeId)
    (ho : o.op = .call { callee := .builtin .copy, args := #[d, s], argTypes := #[dT, sT] }) (elem : TypeId) (hu : P.underlying dT = some (.slice elem)) (hsz : (P.info? elem).map (·.size) = some 1)
    (base : Nat) (v : Value) (n : Nat) (xs : List Value) (hd : a.eval d = v) (hown : w.ownsRow base elem 1 v n xs)
    (y : Value) (ys : List Value) (hs : a.eval s = y) (hr : Reads w y ys) (k : Nat) (hk : ys.length = k) (hle : k ≤ n)
    (h : ∀ w', w'.ownsRow base elem 1 v n (ys ++ xs.drop k) → w.grownBy w' v.ownBlock → wpList P ops Q rest (a.put o.dst (.int .i64 (k : Int))) w') : wpList P ops Q (o :: rest) a w := by
  subst hk
  obtain ⟨ad, cap, rfl, h1, h2, hn, h3, h4⟩ := hr
  have hown0 := hown
  obtain ⟨hl, ho2⟩ := hown
  by_cases h0 : ys = []
  · subst h0
    rcases ho2 with ⟨rfl, hn0⟩ | ⟨g, c, cur, rfl, hg, hh, hnc, hcm, hcs, htk⟩
    · exact wpList_copy_nothing hgd d s dT sT ho elem hu hsz _ _ _ _ _ _ hd hs (by simp [Nat.min_def]) (h w (by simpa using hown0) (World.grownBy.refl _ _))
    · exact wpList_copy_nothing hgd d s dT sT ho elem hu hsz _ _ _ _ _ _ hd hs (by simp [Nat.min_def]) (h w (by simpa using hown0) (World.grownBy.refl _ _))
  · have hp : 0 < ys.length := List.length_pos_iff.2 h0
    rcases h4 with h4 | ⟨b, off, rfl, hc⟩
    · exact absurd h4 h0
    rcases ho2 with ⟨rfl, hn0⟩ | ⟨g, c, cur, rfl, hg, hh, hnc, hcm, hcs, htk⟩
    · omega
    · refine wpList_copy_own hgd d s dT sT ho elem hu hsz g 0 n c ⟨b, off, none⟩ ys.length cap hd hs cur elem hh ys (by simp [Nat.min_def]; omega) (fun j u hj => by rw [Addr.add_lit]; exact hc j u hj) (by omega) h3 ?_
      refine h _ ?_ ?_
      · refine ⟨by simp; omega, .inr ⟨g, c, _, rfl, hg, setRow_heap w g _ _ elem _ hh, hnc, hcm, by simp; omega, ?_⟩⟩
        simp only [List.take_zero, List.nil_append, Nat.zero_add]
        rw [← htk]
        rw [List.take_append]
        simp only [Nat.mul_one, List.take_of_length_le hle]
        congr 1
        rw [List.drop_take]
      · exact ⟨rfl, rfl, rfl, by simp [World.setRow], fun k hk hne => setRow_other w g k _ (fun e => hne (by rw [e]; rfl))⟩
end
end Go.Proofs.Ytmcmocakfhedfaa
