/- MBase: Base Mod B8 Region Fill Big. -/
import Derived.WalkKit
import Derived.WalkLawsBesides
import Derived.WalkSpells
import Derived.Laws.CopyOwn
import Derived.Laws.AppendOwnNone
import Derived.Lib.Hide
import Derived.Lib.SlBytesConst
import Derived.Lib.SmallJoins
import Derived.Maps.OwnSet
import Derived.Maps.OwnOps
import Derived.Maps.RangeWalk
import Derived.OneCell
import Derived.Test.YtnjfioikpajhlaaGreatProg
import Derived.OpenShut
import Derived.Deep.RegionHeld3
import Derived.Laws.Tables
import Derived.Deep.MidRow
set_option maxRecDepth 100000
set_option maxHeartbeats 64000000
namespace Go.Proofs.YtnjfioikpajhlaaGreat
open Go.RowKit
def Ext (w w' : World) : Prop := Below w.heap.size w w'
theorem Ext.refl (w : World) : Ext w w := Below.refl _ _
theorem Ext.trans {a b c : World} (h : Ext a b) (k : Ext b c) : Ext a c := Below.trans (B := a.heap.size) h (Below.mono (B := b.heap.size) k (Below.size (B := a.heap.size) h))
theorem Ext.alloc {a w : World} (h : Ext a w) (o : Obj) : Ext a (w.alloc o) := Below.alloc h (Below.size (B := a.heap.size) h) o
theorem Ext.drew {a w : World} (h : Ext a w) : Ext a w.drew := Below.drew h
theorem Ext.size {a w : World} (h : Ext a w) : a.heap.size <= w.heap.size := Below.size (B := a.heap.size) h
theorem Ext.of_alloc (w : World) (o : Obj) : Ext w (w.alloc o) := (Ext.refl w).alloc o
theorem Ext.of_drew (w : World) : Ext w w.drew := (Ext.refl w).drew
theorem Ext.cell {w w' : World} (h : Ext w w') {p : Addr} {v : Value} (hc : w.cell? p = some v) : w'.cell? p = some v :=
 (Below.cell (B := w.heap.size) h (World.block_lt_of_cell? w p hc)).trans hc
theorem Ext.below {w w' : World} (h : Ext w w') {B : Nat} (hB : B <= w.heap.size) : Below B w w' := Below.mono (B := w.heap.size) h hB
theorem Ext.grown {w0 w w' : World} {row : Option Nat} (h : Ext w0 w) (hg : w.grownBy w' row) (hr : ∀ k, row = some k -> w0.heap.size <= k) : Ext w0 w' := Below.grown (B := w0.heap.size) h hg h.size hr
theorem Ext.keptOwn {w w' : World} (h : Ext w w') {base : Nat} {e : TypeId} {size : Nat} {v : Value} {n : Nat} {xs : List Value} (ho : w.ownsRow base e size v n xs) : w'.ownsRow base e size v n xs := by
 obtain ⟨h1, h2⟩ := ho
 refine ⟨h1, ?_⟩
 rcases h2 with h2 | ⟨g, cap, cur, hv, hg, hh, r⟩
 ·exact Or.inl h2
 ·refine Or.inr ⟨g, cap, cur, hv, hg, ?_, r⟩
  have hlt : g < w.heap.size := by
   rcases Nat.lt_or_ge g w.heap.size with h' | h'
   ·exact h'
   ·rw [Array.getElem?_eq_none h'] at hh; cases hh
  exact (Below.block (B := w.heap.size) h g hlt).trans hh
def Reads (w : World) (v : Value) (cs : List Value) : Prop :=
 ∃ a cap, v = .slice a cs.length cap /\ cs.length <= cap /\ cap <= maxLen /\ (a = none -> cap = 0) /\ (∀ u ∈ cs, u.oneCell' = true) /\
  (cs = [] ∨ ∃ b off, a = some ⟨b, off, none⟩ /\ ∀ j u, cs[j]? = some u -> w.cell? ⟨b, off + j, none⟩ = some u)
theorem Reads.ext {w w' : World} {v : Value} {cs : List Value} (h : Reads w v cs) (he : Ext w w') : Reads w' v cs := by
 obtain ⟨a, cap, hv, h1, h2, hn, h3, h4⟩ := h
 refine ⟨a, cap, hv, h1, h2, hn, h3, ?_⟩
 rcases h4 with h4 | ⟨b, off, hb, hc⟩
 ·exact .inl h4
 ·exact .inr ⟨b, off, hb, fun j u hj => he.cell (hc j u hj)⟩
theorem Reads.nil (w : World) : Reads w (.slice none 0 0) [] := ⟨none, 0, rfl, Nat.le_refl _, by unfold maxLen; omega, fun _ => rfl, by simp, .inl rfl⟩
theorem Reads.of_own {w : World} {base : Nat} {e : TypeId} {v : Value} {n : Nat} {xs : List Value} (h : w.ownsRow base e 1 v n xs) (h1 : ∀ u ∈ xs, u.oneCell' = true) : Reads w v xs := by
 obtain ⟨hl, h2⟩ := h
 obtain rfl : n = xs.length := by omega
 rcases h2 with ⟨rfl, h0⟩ | ⟨g, cap, cur, rfl, hg, hh, hnc, hcm, hcs, ht⟩
 ·obtain rfl : xs = [] := List.eq_nil_of_length_eq_zero h0
  exact Reads.nil w
 ·refine ⟨_, cap, rfl, hnc, hcm, by simp, h1, .inr ⟨g, 0, rfl, fun j u hj => ?_⟩⟩
  have hj' : j < xs.length := (List.getElem?_eq_some_iff.1 hj).1
  rw [cell_of_row w g _ cur e (0, 0) hh, Nat.zero_add]
  rw [<- ht, List.getElem?_take, if_pos (by omega)] at hj
  simpa using hj
theorem Reads.one (w : World) (u : Value) (e : TypeId) (h1 : u.oneCell' = true) : Reads (w.alloc (.cells #[u] e)) (.slice (some ⟨w.heap.size, 0, none⟩) 1 1) [u] := by
 refine ⟨_, 1, rfl, by simp, by unfold maxLen; omega, by simp, by simpa using h1, .inr ⟨_, 0, rfl, fun j u' hj => ?_⟩⟩
 match j, hj with
 | 0, hj => simp at hj; subst hj; rw [World.cell?_alloc_at _ _ _ _ rfl]; rfl
theorem Reads.row (w : World) (cs : List Value) (e : TypeId) (hl : cs.length <= maxLen) (h1 : ∀ u ∈ cs, u.oneCell' = true) : Reads (w.alloc (.cells cs.toArray e)) (.slice (some ⟨w.heap.size, 0, none⟩) cs.length cs.length) cs := by
 refine ⟨_, _, rfl, Nat.le_refl _, hl, by simp, h1, .inr ⟨_, 0, rfl, fun j u' hj => ?_⟩⟩
 rw [World.cell?_alloc_at _ _ _ _ rfl, Nat.zero_add]
 simpa using hj
theorem Reads.rowM (w : World) (cs : List Value) (e : TypeId) (fr : Nat × Nat) (hl : cs.length <= maxLen) (h1 : ∀ u ∈ cs, u.oneCell' = true) : Reads (w.alloc (.cells cs.toArray e fr)) (.slice (some ⟨w.heap.size, 0, none⟩) cs.length cs.length) cs := by
 refine ⟨_, _, rfl, Nat.le_refl _, hl, by simp, h1, .inr ⟨_, 0, rfl, fun j u' hj => ?_⟩⟩
 rw [World.cell?_alloc_mark, Nat.zero_add]
 simpa using hj
def byteVal (b : UInt8) : Value := .int .u8 (b.toNat : Int)
def Bs (w : World) (v : Value) (l : List UInt8) : Prop := Reads w v (l.map byteVal)
theorem Bs.ext {w w' : World} {v : Value} {l : List UInt8} (h : Bs w v l) (he : Ext w w') : Bs w' v l := Reads.ext h he
theorem Bs.reads {w : World} {v : Value} {l : List UInt8} (h : Bs w v l) : Reads w v (l.map byteVal) := h
theorem Bs.nil (w : World) : Bs w (.slice none 0 0) [] := Reads.nil w
theorem bytes_one (l : List UInt8) : ∀ u ∈ l.map byteVal, u.oneCell' = true := by
 intro u hu
 obtain ⟨_, _, rfl⟩ := List.mem_map.1 hu
 rfl
theorem Bs.open {w : World} {v : Value} {l : List UInt8} (h : Bs w v l) :
 (∃ a cap, v = .slice a 0 cap /\ l = [] /\ cap <= maxLen /\ (a = none -> cap = 0)) ∨
 (∃ b off cap, v = .slice (some ⟨b, off, none⟩) l.length cap /\ 0 < l.length /\ l.length <= cap /\ cap <= maxLen /\ b < w.heap.size /\ ∀ i (h : i < l.length), w.cell? ⟨b, off + i, none⟩ = some (.int .u8 (l[i].toNat : Int))) := by
 obtain ⟨a, cap, hv, h1, h2, hn, h3, h4⟩ := h
 rw [List.length_map] at hv h1
 by_cases h0 : l = []
 ·subst h0
  exact .inl ⟨a, cap, hv, rfl, h2, hn⟩
 ·have hp : 0 < l.length := List.length_pos_iff.2 h0
  rcases h4 with h4 | ⟨b, off, rfl, hc⟩
  ·simp [h0] at h4
  ·have hc' : ∀ i (h : i < l.length), w.cell? ⟨b, off + i, none⟩ = some (.int .u8 (l[i].toNat : Int)) := fun i hi => hc i _ (by simp [hi, byteVal])
   refine .inr ⟨b, off, cap, hv, hp, h1, h2, ?_, hc'⟩
   exact World.block_lt_of_cell? w _ (hc' 0 hp)
theorem Bs.length_le {w : World} {v : Value} {l : List UInt8} (h : Bs w v l) : l.length <= 9223372036854775807 := by
 obtain ⟨a, cap, hv, h1, h2, _⟩ := h
 unfold maxLen at h2
 rw [List.length_map] at h1
 omega
theorem Bs.shape {w : World} {v : Value} {l : List UInt8} (h : Bs w v l) : ∃ a cap, v = .slice a l.length cap := by
 obtain ⟨a, cap, hv, _⟩ := h
 exact ⟨a, cap, by simpa using hv⟩
theorem Bs.of_own {w : World} {base : Nat} {e : TypeId} {v : Value} {n : Nat} {l : List UInt8} (h : w.ownsRow base e 1 v n (l.map byteVal)) : Bs w v l := Reads.of_own h (bytes_one l)
theorem Bs.lit (w : World) (l : List UInt8) (e : TypeId) (hl : l.length <= maxLen) : Bs (w.alloc (.cells (l.map byteVal).toArray e)) (.slice (some ⟨w.heap.size, 0, none⟩) l.length l.length) l := by
 have h := Reads.row w (l.map byteVal) e (by simpa using hl) (bytes_one l)
 rw [List.length_map] at h
 exact h
theorem Bs.litM (w : World) (l : List UInt8) (e : TypeId) (fr : Nat × Nat) (hl : l.length <= maxLen) : Bs (w.alloc (.cells (l.map byteVal).toArray e fr)) (.slice (some ⟨w.heap.size, 0, none⟩) l.length l.length) l := by
 have h := Reads.rowM w (l.map byteVal) e fr (by simpa using hl) (bytes_one l)
 rw [List.length_map] at h
 exact h
theorem Bs.toString {P : Program} {w : World} {v : Value} {l : List UInt8} (h : Bs w v l) (src dst e : TypeId) (hs : P.underlying src = some (.slice e)) (he : P.underlying e = some (.int .u8)) (hd : P.underlying dst = some .string) :
 (convert src dst v).run P w = .ok (.string ⟨l.toArray⟩) w := by
 obtain ⟨a, cap, hv, h1, h2, hn, h3, h4⟩ := h
 rw [List.length_map] at hv
 subst hv
 cases a with
 | none =>
  obtain rfl := hn rfl
  obtain rfl : l = [] := List.eq_nil_of_length_eq_zero (by simpa using h1)
  rw [List.length_nil, run_convert_bytes_nil w src e hs he 0 0 dst hd]
  rfl
 | some ad =>
  refine run_convert_bytes_back w src dst e ad cap l hs he hd fun j hj => ?_
  rcases h4 with h4 | ⟨b, off, hb, hc⟩
  ·have : l = [] := by simpa using h4
   subst this; simp at hj
  ·obtain rfl := Option.some.inj hb
   have h := hc j (byteVal l[j]) (by simp [hj])
   rw [Addr.add_lit]; exact h
section
variable {P : Program} {ops : Array Oper} {rest : List Oper} {o : Oper} {a : Act} {Q : Exit -> Act -> World -> Prop}
theorem madeCells_one (z : Value) (n : Nat) : madeCells #[z] n = (List.replicate n z).toArray := by
 apply Array.ext
 ·simp [madeCells]
 ·intro i h1 h2
  simp [madeCells, Nat.mod_one]
theorem wpl_make (w : World) (hg : o.guard = none) (l c : Operand) (t : TypeId) (hop : o.op = Op.makeSlice t l c)
 (base : Nat) (e : TypeId) (i : TypeInfo) (z : Value) (h1 : P.underlying t = some (.slice e)) (h2 : P.info? e = some i) (h3 : i.zero = some z) (h4 : i.size = 1) (hz : z.cells = #[z])
 (kl kc : IntKind) (L C : Int) (n m : Nat) (hl : a.eval l = .int kl L) (hc : a.eval c = .int kc C) (hL : L = (n : Int)) (hC : C = (m : Int)) (hnm : n <= m) (b2 : i.bytes * m <= 281474976710656) (b3 : m <= maxLen) (b4 : base <= w.heap.size)
 (hK : ∀ w', w'.ownsRow base e 1 (.slice (some ⟨w.heap.size, 0, none⟩) n m) n (List.replicate n z) -> Ext w w' -> w.grownBy w' none -> wpList P ops Q rest (a.put o.dst (.slice (some ⟨w.heap.size, 0, none⟩) n m)) w') :
 wpList P ops Q (o :: rest) a w := by
 refine wpList_plain hg fun K hK' => ?_
 subst hL hC
 have hb : (i.bytes : Int) * (m : Int) <= 281474976710656 := by
  have e : (i.bytes : Int) * (m : Int) = ((i.bytes * m : Nat) : Int) := by simp
  rw [e]; exact Int.ofNat_le.2 b2
 have hm : (m : Int) <= 9223372036854775807 := by unfold maxLen at b3; omega
 have hrun := run_make (P := P) (w := w) t e i z h1 h2 h3 kl kc (n : Int) (m : Int) (by omega) (by omega) hb hm
 rw [Int.toNat_natCast, Int.toNat_natCast, h4, Nat.mul_one, hz, madeCells_one] at hrun
 unfold Oper.wp
 simp [execOp, hop, hl, hc, hrun, Result.andThen]
 refine hK' _ _ (hK _ ?_ (Ext.of_alloc w _) (World.grownBy_alloc w _ none))
 refine ⟨by simp, .inr ⟨w.heap.size, m, (List.replicate m z).toArray, rfl, b4, heap_alloc_new w _, hnm, b3, by simp, ?_⟩⟩
 simp [List.take_replicate, hnm]
theorem wpl_append (w : World) (hgd : o.guard = none) (s x : Operand) (t : TypeId)
 (ho : o.op = .call { callee := .builtin .append, args := #[s, x], argTypes := #[t, t] })
 (base : Nat) (e : TypeId) (i : TypeInfo) (z : Value) (bytes : Nat) (ht : P.underlying t = some (.slice e)) (hi : P.info? e = some i) (hz : i.zero = some z)
 (hsize : i.size = 1) (hby : i.bytes = bytes) (hzs : z.cells.size = 1)
 (v : Value) (n : Nat) (xs : List Value) (hs : a.eval s = v) (hown : w.ownsRow base e 1 v n xs)
 (y : Value) (ys : List Value) (hx : a.eval x = y) (hr : Reads w y ys)
 (h63 : n + ys.length <= maxLen) (hbytes : (n + ys.length) * bytes <= 140737488355328) (hbase : base <= w.heap.size)
 (h : ∀ v' w', w'.ownsRow base e 1 v' (n + ys.length) (xs ++ ys) -> w.grownBy w' v.ownBlock -> wpList P ops Q rest (a.put o.dst v') w') : wpList P ops Q (o :: rest) a w := by
 obtain ⟨ad, cap, rfl, h1, h2, hn, h3, h4⟩ := hr
 cases ad with
 | none =>
  obtain rfl := hn rfl
  obtain rfl : ys = [] := List.eq_nil_of_length_eq_zero (by omega)
  refine wpList_append_own_none hgd s x t ho base e i 1 ht hi v n xs hs hown hx (h v w (by simpa using hown) (World.grownBy.refl _ _))
 | some ad =>
  refine wpList_append_own w hgd s x t ho base e i z 1 bytes ht hi hz hsize hby hzs (by omega) v n xs hs hown ad ys.length cap ys hx (by omega) ?_ h3 h63 hbytes hbase (fun v' w' a b _ => h v' w' a b)
  intro j u hj
  rcases h4 with rfl | ⟨b, off, hb, hc⟩
  ·simp at hj
  ·obtain rfl := Option.some.inj hb
   rw [Addr.add_lit]
   exact hc j u hj
theorem wpl_copy (w : World) (hgd : o.guard = none) (d s : Operand) (dT sT : TypeId)
 (ho : o.op = .call { callee := .builtin .copy, args := #[d, s], argTypes := #[dT, sT] }) (elem : TypeId) (hu : P.underlying dT = some (.slice elem)) (hsz : (P.info? elem).map (·.size) = some 1)
 (base : Nat) (v : Value) (n : Nat) (xs : List Value) (hd : a.eval d = v) (hown : w.ownsRow base elem 1 v n xs)
 (y : Value) (ys : List Value) (hs : a.eval s = y) (hr : Reads w y ys) (k : Nat) (hk : ys.length = k) (hle : k <= n)
 (h : ∀ w', w'.ownsRow base elem 1 v n (ys ++ xs.drop k) -> w.grownBy w' v.ownBlock -> wpList P ops Q rest (a.put o.dst (.int .i64 (k : Int))) w') : wpList P ops Q (o :: rest) a w := by
 subst hk
 obtain ⟨ad, cap, rfl, h1, h2, hn, h3, h4⟩ := hr
 have hown0 := hown
 obtain ⟨hl, ho2⟩ := hown
 by_cases h0 : ys = []
 ·subst h0
  rcases ho2 with ⟨rfl, hn0⟩ | ⟨g, c, cur, rfl, hg, hh, hnc, hcm, hcs, htk⟩
  ·exact wpList_copy_nothing hgd d s dT sT ho elem hu hsz _ _ _ _ _ _ hd hs (by simp) (h w (by simpa using hown0) (World.grownBy.refl _ _))
  ·exact wpList_copy_nothing hgd d s dT sT ho elem hu hsz _ _ _ _ _ _ hd hs (by simp) (h w (by simpa using hown0) (World.grownBy.refl _ _))
 ·have hp : 0 < ys.length := List.length_pos_iff.2 h0
  rcases h4 with h4 | ⟨b, off, rfl, hc⟩
  ·exact absurd h4 h0
  rcases ho2 with ⟨rfl, hn0⟩ | ⟨g, c, cur, rfl, hg, hh, hnc, hcm, hcs, htk⟩
  ·omega
  ·refine wpList_copy_own hgd d s dT sT ho elem hu hsz g 0 n c ⟨b, off, none⟩ ys.length cap hd hs cur elem hh ys (by simp [Nat.min_def]; omega) (fun j u hj => by rw [Addr.add_lit]; exact hc j u hj) (by omega) h3 ?_
   refine h _ ?_ ?_
   ·refine ⟨by simp; omega, .inr ⟨g, c, _, rfl, hg, setRow_heap w g _ _ elem _ hh, hnc, hcm, by simp; omega, ?_⟩⟩
    simp only [List.take_zero, List.nil_append, Nat.zero_add]
    rw [<- htk]
    rw [List.take_append]
    simp only [Nat.mul_one, List.take_of_length_le hle]
    congr 1
    rw [List.drop_take]
   ·exact ⟨rfl, rfl, rfl, by simp [World.setRow], fun k hk hne => setRow_other w g k _ (fun e => hne (by rw [e]; rfl))⟩
end
end Go.Proofs.YtnjfioikpajhlaaGreat
namespace Go.Proofs.YtnjfioikpajhlaaGreat
open Go.RowKit
structure Mod (F : Nat -> Prop) (w w' : World) : Prop where
 os : w'.os = w.os
 tape : w'.tape = w.tape
 output : w'.output = w.output
 size : w.heap.size <= w'.heap.size
 block : ∀ k, k < w.heap.size -> ¬ F k -> w'.heap[k]? = w.heap[k]?
theorem Mod.refl (F : Nat -> Prop) (w : World) : Mod F w w := ⟨rfl, rfl, rfl, Nat.le_refl _, fun _ _ _ => rfl⟩
theorem Mod.of_ext {F : Nat -> Prop} {w w' : World} (h : Ext w w') : Mod F w w' :=
 ⟨Below.os (B := w.heap.size) h, Below.tape (B := w.heap.size) h, Below.output (B := w.heap.size) h, h.size, fun k hk _ => Below.block (B := w.heap.size) h k hk⟩
theorem Mod.mono {F G : Nat -> Prop} {w w' : World} (h : Mod F w w') (hFG : ∀ k, F k -> G k) : Mod G w w' := ⟨h.os, h.tape, h.output, h.size, fun k hk hg => h.block k hk (fun hf => hg (hFG k hf))⟩
theorem Mod.trans {F G : Nat -> Prop} {a b c : World} (h : Mod F a b) (k : Mod G b c) (hG : ∀ i, i < a.heap.size -> G i -> F i) : Mod F a c :=
 ⟨k.os.trans h.os, k.tape.trans h.tape, k.output.trans h.output, Nat.le_trans h.size k.size, fun i hi hf => (k.block i (Nat.lt_of_lt_of_le hi h.size) (fun hg => hf (hG i hi hg))).trans (h.block i hi hf)⟩
theorem Mod.ext {F : Nat -> Prop} {w0 w w' : World} (h0 : Ext w0 w) (h : Mod F w w') (hF : ∀ k, F k -> w0.heap.size <= k) : Ext w0 w' :=
 Below.trans (B := w0.heap.size) h0 ⟨h.os, h.tape, h.output, h.size, fun k hk => h.block k (Nat.lt_of_lt_of_le hk h0.size) (fun hf => by have := hF k hf; omega)⟩
theorem Mod.grown {F : Nat -> Prop} {w w' : World} {row : Option Nat} (hg : w.grownBy w' row) (hr : ∀ k, row = some k -> k < w.heap.size -> F k) : Mod F w w' :=
 ⟨hg.os, hg.tape, hg.output, hg.size, fun k hk hf => hg.block k hk (fun e => hf (hr k e.symm hk))⟩
theorem Mod.setCell {F : Nat -> Prop} (w : World) (p : Addr) (u : Value) (hp : F p.block) : Mod F w (w.setCell p u) :=
 ⟨rfl, rfl, rfl, by simp, fun k _ hf => Below.heap_setCell _ _ _ _ (fun e => hf (e ▸ hp))⟩
theorem Mod.cell {F : Nat -> Prop} {w w' : World} (h : Mod F w w') {p : Addr} {v : Value} (hc : w.cell? p = some v) (hp : ¬ F p.block) : w'.cell? p = some v :=
 (World.cell?_of_block (h.block p.block (World.block_lt_of_cell? w p hc) hp)).trans hc
def Value.at_ : Value -> Option Nat
 | .slice (some a) _ _ => some a.block
 | _ => none
theorem Reads.mod {F : Nat -> Prop} {w w' : World} {v : Value} {cs : List Value} (h : Reads w v cs) (hm : Mod F w w') (hv : ∀ k, v.ownBlock = some k -> ¬ F k) : Reads w' v cs := by
 obtain ⟨a, cap, rfl, h1, h2, hn, h3, h4⟩ := h
 refine ⟨a, cap, rfl, h1, h2, hn, h3, ?_⟩
 rcases h4 with h4 | ⟨b, off, rfl, hc⟩
 ·exact .inl h4
 ·exact .inr ⟨b, off, rfl, fun j u hj => hm.cell (hc j u hj) (hv b rfl)⟩
theorem ownsRow_mod {F : Nat -> Prop} {w w' : World} {base : Nat} {e : TypeId} {size : Nat} {v : Value} {n : Nat} {xs : List Value} (h : w.ownsRow base e size v n xs) (hm : Mod F w w') (hv : ∀ k, v.ownBlock = some k -> ¬ F k) : w'.ownsRow base e size v n xs := by
 obtain ⟨h1, h2⟩ := h
 refine ⟨h1, ?_⟩
 rcases h2 with h2 | ⟨g, cap, cur, rfl, hg, hh, r⟩
 ·exact Or.inl h2
 ·refine Or.inr ⟨g, cap, cur, rfl, hg, ?_, r⟩
  have hlt : g < w.heap.size := by
   rcases Nat.lt_or_ge g w.heap.size with h' | h'
   ·exact h'
   ·rw [Array.getElem?_eq_none h'] at hh; cases hh
  exact (hm.block g hlt (hv g rfl)).trans hh
theorem ownsRow_base {w : World} {base base' : Nat} {e : TypeId} {size : Nat} {v : Value} {n : Nat} {xs : List Value} (h : w.ownsRow base e size v n xs) (hb : ∀ k, v.ownBlock = some k -> base' <= k) : w.ownsRow base' e size v n xs := by
 obtain ⟨h1, h2⟩ := h
 refine ⟨h1, ?_⟩
 rcases h2 with h2 | ⟨g, cap, cur, rfl, hg, r⟩
 ·exact Or.inl h2
 ·exact Or.inr ⟨g, cap, cur, rfl, hb g rfl, r⟩
theorem blk_cell {w : World} {b : Nat} {cs : List Value} {e : TypeId} {fr : Nat × Nat} (h : w.heap[b]? = some (.cells cs.toArray e fr)) (j : Nat) : w.cell? ⟨b, j, none⟩ = cs[j]? := by
 rw [cell_of_row w b j cs.toArray e fr h]; simp
theorem blk_free {w : World} {b : Nat} {cs : Array Value} {e : TypeId} (h : w.heap[b]? = some (.cells cs e (0, 0))) (j : Nat) : w.frozen? ⟨b, j, none⟩ = false := frozen_of_row w b j cs e h
theorem blk_set {w : World} {b : Nat} {cs : List Value} {e : TypeId} (h : w.heap[b]? = some (.cells cs.toArray e (0, 0))) (j : Nat) (u : Value) : (w.setCell ⟨b, j, none⟩ u).heap[b]? = some (.cells (cs.set j u).toArray e (0, 0)) := by
 have := heap_setCell_same w b j cs.toArray e u h
 simpa using this
theorem blk_lt {w : World} {b : Nat} {o : Obj} (h : w.heap[b]? = some o) : b < w.heap.size := (Array.getElem?_eq_some_iff.1 h).1
theorem blk_mod {F : Nat -> Prop} {w w' : World} {b : Nat} {o : Obj} (h : w.heap[b]? = some o) (hm : Mod F w w') (hb : ¬ F b) : w'.heap[b]? = some o := (hm.block b (blk_lt h) hb).trans h
def tok : Value -> Option (DataW Value × List MemPlace) := fun v => some (.held v, [])
def untok : DataW Value -> Option Value
 | .held v => some v
 | _ => none
def MapAt (P : Program) (kt : TypeId) (w : World) (m : Nat) (f : Int -> Option Value) : Prop :=
 ∃ n D, w.ownsMap P kt tok m n D /\ ∀ k : Int, f k = if Maps.has D (.int .i64 k) then untok (D.atKey (.int .i64 k) .nil) else none
section
variable {P : Program} {kt : TypeId} {w : World} {m : Nat} {f : Int -> Option Value}
theorem MapAt.made (w : World) (P : Program) (kt : TypeId) : MapAt P kt (w.alloc (.map #[] 0)) w.heap.size (fun _ => none) :=
 ⟨0, _, World.ownsMap_made w P kt tok, fun _k => rfl⟩
theorem MapAt.lt (h : MapAt P kt w m f) : m < w.heap.size := let ⟨_, _, h, _⟩ := h; h.lt
theorem MapAt.mod {F : Nat -> Prop} {w' : World} (h : MapAt P kt w m f) (hm : Mod F w w') (hF : ¬ F m) : MapAt P kt w' m f := by
 obtain ⟨n, D, ho, hf⟩ := h
 have hlt := ho.lt
 obtain ⟨es, clock, hb, r⟩ := ho
 exact ⟨n, D, ⟨es, clock, (hm.block m hlt hF).trans hb, r⟩, hf⟩
theorem MapAt.block (h : MapAt P kt w m f) : ∃ es clock, w.heap[m]? = some (.map es clock) := by
 obtain ⟨n, D, ⟨es, clock, hb, _⟩, hf⟩ := h
 exact ⟨es, clock, hb⟩
theorem i64_wf {k : Int} (h1 : -9223372036854775808 <= k) (h2 : k <= 9223372036854775807) : (Lit.int .i64 k).wf = true := WalkArith.wf_i64 ⟨h1, h2⟩
theorem MapAt.get (h : MapAt P kt w m f) (hk : P.underlying kt = some (.int .i64)) {t e : TypeId} (ht : P.underlying t = some (.map kt e)) {z : Value} (hz : (zeroValue e).run P w = .ok z w)
 (k : Int) (h1 : -9223372036854775808 <= k) (h2 : k <= 9223372036854775807) : (Instr.lookup t (.map (some m)) (.int .i64 k) false).run P w = .ok ((f k).getD z) w := by
 obtain ⟨n, D, ho, hf⟩ := h
 obtain ⟨v, ps, hrun, hv⟩ := ho.lookup (Maps.int_keyed hk) ht hz (zd := .held z) (zp := []) rfl (Maps.keyOf_int_mk hk (i64_wf h1 h2))
 rw [hrun, hf k]
 have hv2 : (DataW.held v : DataW Value) = D.atKey (.int .i64 k) (.held z) := by
  simp only [tok, Option.some.injEq, Prod.mk.injEq] at hv; exact hv.1
 cases hh : Maps.has D (.int .i64 k) with
 | false =>
  rw [Maps.atKey_of_not_has hh] at hv2
  have : v = z := by injection hv2
  subst this; rfl
 | true =>
  have : D.atKey (.int .i64 k) .nil = D.atKey (.int .i64 k) (.held z) := by
   cases D with
   | map es =>
    simp only [Maps.has_eq] at hh
    simp only [DataW.atKey]
    cases hfi : es.find? (fun p => p.1.sameKey (.int .i64 k)) with
    | some p => rfl
    | none =>
     rw [List.find?_eq_none] at hfi
     rw [List.any_eq_true] at hh
     obtain ⟨p, hp, hp2⟩ := hh
     exact absurd hp2 (hfi p hp)
   | _ => simp [Maps.has] at hh
  rw [this, <- hv2]; rfl
theorem MapAt.entries {n : Nat} {D : DataW Value} (ho : w.ownsMap P kt tok m n D) (hk : P.underlying kt = some (.int .i64)) :
 ∃ ES : List (Lit × DataW Value), D = .map ES /\ ES.Pairwise (fun p q => p.1 ≠ q.1) /\ ∀ p ∈ ES, ∃ k v, p = (.int .i64 k, .held v) /\ (Lit.int .i64 k).wf = true := by
 obtain ⟨es, clock, hb, F, hs, rfl⟩ := ho
 refine ⟨_, rfl, ?_, ?_⟩
 ·exact ((WideShapes.sorted_perm _).pairwise_iff (fun {_ _} hne => Ne.symm hne)).2 (Maps.fit_apart (Maps.int_keyed hk) F)
 ·intro p hp
  have hp2 := (WideShapes.sorted_perm _).mem_iff.1 hp
  obtain ⟨x, hx, rfl⟩ := List.mem_map.1 hp2
  obtain ⟨y, hy⟩ := F.reads x hx
  rw [WideElems.rg_of hy]
  have hkey := WideElems.rd_key hy
  obtain ⟨z, hz, hz2⟩ := WideElems.rd_val hy
  obtain ⟨k, _, hk2, hw⟩ := Maps.keyOf_int_inv hk hkey
  refine ⟨k, x.val, ?_, hw⟩
  have : z = (.held x.val, []) := by simpa [tok] using hz.symm
  subst this
  exact Prod.ext hk2 hz2
theorem nodup_lt (N : Nat) : ∀ l : List Nat, l.Nodup -> (∀ x ∈ l, x < N) -> l.length <= N := by
 induction N with
 | zero =>
  intro l _ h
  cases l with
  | nil => simp
  | cons x r => exact absurd (h x (by simp)) (by omega)
 | succ N ih =>
  intro l hn h
  have h1 := ih (l.erase N) (hn.erase N) (fun x hx => by
   have h2 := h x (List.mem_of_mem_erase hx)
   have h3 : x ≠ N := fun e => by subst e; exact hn.not_mem_erase hx
   omega)
  have h4 := List.length_erase (a := N) (l := l)
  split at h4 <;> omega
theorem MapAt.size_le {n : Nat} {D : DataW Value} (ho : w.ownsMap P kt tok m n D) (hk : P.underlying kt = some (.int .i64))
 (hf : ∀ k : Int, f k = if Maps.has D (.int .i64 k) then untok (D.atKey (.int .i64 k) .nil) else none) (N : Nat) (hN : ∀ k v, f k = some v -> 0 <= k /\ k < (N : Int)) : Maps.size D <= N := by
 obtain ⟨ES, rfl, hpw, hall⟩ := MapAt.entries ho hk
 have hkeys : ∀ p ∈ ES, ∃ j : Nat, j < N /\ p.1 = .int .i64 (j : Int) := by
  intro p hp
  obtain ⟨k, v, rfl, hw⟩ := hall p hp
  have hmem : (DataW.map ES).atKey (.int .i64 k) .nil = .held v := WideAt.atKey_mem _ (by trivial) hpw hp
  have hhas : Maps.has (DataW.map ES) (.int .i64 k) = true := by
   cases hh : Maps.has (DataW.map ES) (.int .i64 k) with
   | true => rfl
   | false =>
    rw [Maps.atKey_of_not_has hh] at hmem
    cases hmem
  have h := hf k
  rw [hhas, if_pos rfl, hmem] at h
  obtain ⟨h0, h1⟩ := hN k v h
  exact ⟨k.toNat, by omega, by simp only [Int.toNat_of_nonneg h0]⟩
 have key : ∀ l : List (Lit × DataW Value), (∀ p ∈ l, ∃ j : Nat, j < N /\ p.1 = .int .i64 (j : Int)) -> ∃ js : List Nat, l.map Prod.fst = js.map (fun j : Nat => Lit.int .i64 (j : Int)) /\ ∀ j ∈ js, j < N := by
  intro l
  induction l with
  | nil => intro _; exact ⟨[], rfl, by simp⟩
  | cons p r ih =>
   intro h
   obtain ⟨js, e, hj⟩ := ih (fun q hq => h q (by simp [hq]))
   obtain ⟨j, hjN, hp⟩ := h p (by simp)
   exact ⟨j :: js, by rw [List.map_cons, List.map_cons, hp, e], by intro x hx; rcases List.mem_cons.1 hx with rfl | hx; exact hjN; exact hj x hx⟩
 obtain ⟨js, e, hj⟩ := key ES hkeys
 have hnd : (ES.map Prod.fst).Nodup := by
  rw [List.Nodup, List.pairwise_map]; exact hpw
 rw [e] at hnd
 have hnd2 : js.Nodup := by
  rw [List.Nodup, List.pairwise_map] at hnd
  exact hnd.imp (fun {a b} h (e : a = b) => h (by rw [e]))
 have hl := nodup_lt N js hnd2 hj
 have : ES.length = js.length := by simpa using congrArg List.length e
 simp only [Maps.size_eq]; omega
theorem MapAt.set (h : MapAt P kt w m f) (hk : P.underlying kt = some (.int .i64)) {t e : TypeId} (ht : P.underlying t = some (.map kt e)) (N : Nat) (hN : ∀ k v, f k = some v -> 0 <= k /\ k < (N : Int)) (hNm : N < 4611686018427387904)
 (k : Int) (h1 : -9223372036854775808 <= k) (h2 : k <= 9223372036854775807) (val : Value) :
 ∃ w', (Instr.mapUpdate t (.map (some m)) (.int .i64 k) val).run P w = .ok () w' /\ MapAt P kt w' m (fun j => if j = k then some val else f j) /\ w.grownBy w' (some m) := by
 obtain ⟨n, D, ho, hf⟩ := h
 have hsz := MapAt.size_le ho hk hf N hN
 have ho2 : w.ownsMap P kt tok m (Maps.size D) D := by
  obtain ⟨es, clock, hb, F, hs, rfl⟩ := ho
  exact ⟨es, clock, hb, F, by simp [Maps.size, length_sorted], rfl⟩
 have htidy := ho2.tidy (Maps.int_keyed hk)
 obtain ⟨w', hrun, ho3, hg⟩ := ho2.update (Maps.int_keyed hk) ht (by unfold maxLen; omega) (key := .int .i64 k) (val := val) (Maps.keyOf_int_mk hk (i64_wf h1 h2)) (d := .held val) (ps := []) rfl
 refine ⟨w', hrun, ⟨_, _, ho3, fun j => ?_⟩, hg⟩
 by_cases hj : j = k
 ·subst hj
  simp only [if_pos]
  rw [Maps.has_put_same htidy.isMap (by trivial), if_pos rfl, Maps.atKey_put_same htidy.isMap (by trivial)]; rfl
 ·have hne : (Lit.int .i64 j) ≠ (Lit.int .i64 k) := fun e => hj (by injection e)
  simp only [if_neg hj]
  rw [Maps.has_put_other hne, Maps.atKey_put_other hne]; exact hf j
end
end Go.Proofs.YtnjfioikpajhlaaGreat
namespace Go.Proofs.YtnjfioikpajhlaaGreat
open Go.RowKit Go.ChangeShapes Go.WideShapes Go.ChangeAt
theorem info_u8 : (Tryz.prog.info? 5).map (fun i => (i.zero, i.size, i.bytes)) = some (some (.int .u8 0), 1, 1) := by kernel_rfl
theorem size_u8 : (Tryz.prog.info? 5).map (·.size) = some 1 := by kernel_rfl
theorem own_open {w : World} {base : Nat} {e : TypeId} {v : Value} {n : Nat} {xs : List Value} (h : w.ownsRow base e 1 v n xs) (hn : 0 < n) :
 ∃ g cap, v = .slice (some ⟨g, 0, none⟩) n cap /\ base <= g /\ g < w.heap.size /\ n <= cap /\ cap <= maxLen /\ ∀ j, j < n -> w.cell? ⟨g, j, none⟩ = xs[j]? := by
 rcases h.2 with ⟨_, h0⟩ | ⟨g, cap, cur, hv, hb, hg, hnc, hcm, _, _⟩
 ·omega
 ·subst hv
  refine ⟨g, cap, rfl, hb, (h.lt g rfl).2, hnc, hcm, fun j hj => ?_⟩
  exact h.cellAt j (by omega)
theorem own_empty (w : World) (base : Nat) (e : TypeId) (hb : base <= w.heap.size) : (w.alloc (.cells #[] e)).ownsRow base e 1 (.slice (some ⟨w.heap.size, 0, none⟩) 0 0) 0 [] :=
 World.ownsRow_made w #[] 0 hb (by simp [maxLen]) rfl
theorem Ext.setCell {a w : World} (h : Ext a w) {p : Addr} (hp : a.heap.size <= p.block) (u : Value) : Ext a (w.setCell p u) := Below.setCell (B := a.heap.size) h hp u
theorem wpl_append_b {ops : Array Oper} {rest : List Oper} {o : Oper} {a : Act} {Q : Exit -> Act -> World -> Prop} (w : World) (hgd : o.guard = none) (s x : Operand)
 (ho : o.op = .call { callee := .builtin .append, args := #[s, x], argTypes := #[56, 56] })
 (base : Nat) (v : Value) (xs : List UInt8) (hs : a.eval s = v) (hown : w.ownsRow base 5 1 v xs.length (xs.map byteVal))
 (y : Value) (ys : List UInt8) (hx : a.eval x = y) (hr : Bs w y ys) (zs : List UInt8) (hzs : xs ++ ys = zs)
 (h63 : zs.length <= 140737488355328) (hbase : base <= w.heap.size)
 (h : ∀ v' w', w'.ownsRow base 5 1 v' zs.length (zs.map byteVal) -> w.grownBy w' v.ownBlock -> wpList Tryz.prog ops Q rest (a.put o.dst v') w') : wpList Tryz.prog ops Q (o :: rest) a w := by
 obtain ⟨i0, hi, hz0, hz1, hz2⟩ := info_parts info_u8
 subst hzs
 refine wpl_append w hgd s x 56 ho base 5 i0 (.int .u8 0) 1 Tryz.underlying56 hi hz0 hz1 hz2 rfl v xs.length (xs.map byteVal) hs hown y (ys.map byteVal) hx hr.reads ?_ ?_ hbase ?_
 ·unfold maxLen; simp at h63 ⊢; omega
 ·simp at h63 ⊢; omega
 ·intro v' w' h1 h2
  refine h v' w' ?_ h2
  rw [List.map_append, List.length_append]
  simpa using h1
theorem own_shape {w : World} {base : Nat} {e : TypeId} {v : Value} {n : Nat} {xs : List Value} (h : w.ownsRow base e 1 v n xs) :
 (∃ a cap, v = .slice a 0 cap /\ n = 0) ∨ ∃ g cap, v = .slice (some ⟨g, 0, none⟩) n cap /\ 0 < n /\ base <= g := by
 by_cases hn : n = 0
 ·subst hn
  obtain ⟨_, h2⟩ := h
  rcases h2 with ⟨hv, _⟩ | ⟨g, cap, cur, hv, _⟩
  ·exact .inl ⟨_, _, hv, rfl⟩
  ·exact .inl ⟨_, _, hv, rfl⟩
 ·obtain ⟨g, cap, hv, hg, _⟩ := own_open h (by omega)
  exact .inr ⟨g, cap, hv, by omega, hg⟩
theorem wf_i64 {n : Int} (h : (Lit.int .i64 n).wf = true) : -9223372036854775808 <= n /\ n <= 9223372036854775807 := by
 simp [Lit.wf, IntKind.min, IntKind.max, IntKind.bits, IntKind.signed] at h; omega
theorem wf_u8 {n : Int} (h : (Lit.int .u8 n).wf = true) : 0 <= n /\ n < 256 := by
 simp [Lit.wf, IntKind.min, IntKind.max, IntKind.bits, IntKind.signed] at h; omega
def Str (w : World) (v : Value) (l : List UInt8) : Prop := ∀ w', Ext w w' -> (convert 56 9 v).run Tryz.prog w' = .ok (.string ⟨l.toArray⟩) w'
theorem Bs.str {w : World} {v : Value} {l : List UInt8} (h : Bs w v l) : Str w v l := fun _ hx =>
 (h.ext hx).toString 56 9 5 Tryz.underlying56 Tryz.underlying5 Tryz.underlying9
theorem Bs.take {w : World} {a : Option Addr} {len cap : Nat} {l : List UInt8} (h : Bs w (.slice a len cap) l) (k : Nat) (hk : k <= len) : Bs w (.slice a k cap) (l.take k) := by
 obtain ⟨a', cap', hv, h1, h2, hn, h3, h4⟩ := h
 rw [List.length_map] at hv h1
 simp only [Value.slice.injEq] at hv
 obtain ⟨rfl, rfl, rfl⟩ := hv
 refine ⟨a, cap, by simp; omega, by simp; omega, h2, hn, bytes_one _, ?_⟩
 rcases h4 with h4 | ⟨b, off, hb, hc⟩
 ·left
  have : l = [] := by simpa using h4
  subst this; simp
 ·right
  refine ⟨b, off, hb, fun j u hj => hc j u ?_⟩
  have hj' := (List.getElem?_eq_some_iff.1 hj).1
  have hjk : j < k := by rw [List.length_map, List.length_take] at hj'; omega
  rw [List.map_take, List.getElem?_take, if_pos hjk] at hj
  exact hj
theorem one_string {P : Program} (src dst e : TypeId) (hs : P.underlying src = some (.slice e)) (he : P.underlying e = some (.int .u8)) (hd : P.underlying dst = some .string) (w : World) (b : UInt8) (x : Int) (hx : x = (b.toNat : Int)) :
 (convert src dst (.slice (some ⟨w.heap.size, 0, none⟩) 1 1)).run P (w.alloc (.cells #[.int .u8 x] e)) = .ok (.string ⟨#[b]⟩) (w.alloc (.cells #[.int .u8 x] e)) := by
 subst hx
 have h : Bs (w.alloc (.cells #[.int .u8 (b.toNat : Int)] e)) (.slice (some ⟨w.heap.size, 0, none⟩) 1 1) [b] := Reads.one w _ e rfl
 exact h.toString src dst e hs he hd
theorem ba_append (a b : List UInt8) : (⟨a.toArray⟩ : ByteArray) ++ ⟨b.toArray⟩ = ⟨(a ++ b).toArray⟩ := by
 apply ByteArray.ext
 simp [ByteArray.data_append]
theorem ba_push (a : List UInt8) (b : UInt8) : (⟨a.toArray⟩ : ByteArray) ++ ⟨#[b]⟩ = ⟨(a ++ [b]).toArray⟩ := ba_append a [b]
end Go.Proofs.YtnjfioikpajhlaaGreat
namespace Go.Proofs.YtnjfioikpajhlaaGreat
open Go.RowKit
section
variable {P : Program} {ops : Array Oper} {Q : Exit -> Act -> World -> Prop} {md : Region.Mode} {S : World -> Prop} {c : Nat}
def wpAnyC (P : Program) (md : Region.Mode) (ops : Array Oper) (Q : Exit -> Act -> World -> Prop) (S : World -> Prop) (c : Nat) : Nat -> Array Bool -> Act -> World -> Prop
 | 0, listed, a, w => Region.ready md ops listed = [] /\ Q .normal a w
 | fuel + 1, listed, a, w =>
  (Region.ready md ops listed = [] -> Q .normal a w) /\
  (∀ i ∈ Region.ready md ops listed, i ≠ c -> wpOp P ops Q i (fun a' w' => S w' /\ wpAnyC P md ops Q S c fuel (listed.setIfInBounds i true) a' w') a w) /\
  (c ∈ Region.ready md ops listed -> wpOp P ops Q c (wpAny P md ops Q fuel (listed.setIfInBounds c true)) a w)
theorem wpAny_of_C : ∀ (fuel : Nat) (listed : Array Bool) (a : Act) (w : World), wpAnyC P md ops Q S c fuel listed a w -> wpAny P md ops Q fuel listed a w
 | 0, _, _, _, h => h
 | fuel + 1, _, _, _, h => ⟨h.1, fun i hi => by
  by_cases hic : i = c
  ·subst hic; exact h.2.2 hi
  ·exact wpOp_mono (fun a' w' h' => wpAny_of_C fuel _ a' w' h'.2) (h.2.1 i hi hic)⟩
def chained (md : Region.Mode) (ops : Array Oper) : List Nat -> Bool
 | i :: j :: r => ((ops[j]?).map (fun o => o.after.any (fun e => Region.binds md e && e.on == i))).getD false && chained md ops (j :: r)
 | _ => true
theorem chained_spec : ∀ (path : List Nat) (i : Nat), chained md ops (i :: path) = true -> ∀ (listed : Array Bool), listed.getD i false = false -> (∀ k ∈ path, listed.getD k false = false) ->
 ∀ k ∈ path, k ∉ Region.ready md ops listed := by
 intro path
 induction path with
 | nil => intro i _ listed _ _ k hk; cases hk
 | cons j r ih =>
  intro i h listed hi hall k hk
  simp only [chained, Bool.and_eq_true] at h
  rcases List.mem_cons.1 hk with rfl | hk
  ·intro hr
   obtain ⟨_, o, ho, hw⟩ := mem_ready.1 hr
   have h1 := h.1
   rw [ho] at h1
   simp only [Option.map_some, Option.getD_some] at h1
   obtain ⟨e, he, hb⟩ := Array.any_eq_true'.1 h1
   simp only [Bool.and_eq_true, beq_iff_eq] at hb
   have := hw e he hb.1
   rw [hb.2, hi] at this
   cases this
  ·exact ih j h.2 listed (hall j (by simp)) (fun q hq => hall q (by simp [hq])) k hk
theorem wpAnyC_first {i : Nat} {oi : Oper} {v : Value} {path : List Nat} (hi : ops[i]? = some oi) (hpath : chained md ops (i :: path) = true) (hcp : c ∈ path)
 (hsel : ∀ (j : Nat) (o : Oper) cs b, ops[j]? = some o -> o.op ≠ .select cs b)
 (hQ : ∀ c a w, Q (.panic c) (a.put oi.dst v) w -> Q (.panic c) a w) :
 ∀ (fuel : Nat) (listed : Array Bool) (a : Act) (w : World),
  (∀ j oj, ops[j]? = some oj -> j ≠ i -> listed.getD j true = false -> (∀ e ∈ oj.after, Region.binds md e = true -> e.on ≠ i) -> oi.apart ops oj = true) ->
  i ∈ Region.ready md ops listed -> (∀ k ∈ path, listed.getD k false = false /\ k ≠ i) -> YieldsIf P ops S oi v a -> S w ->
  wpAnyC P md ops Q S c fuel (listed.setIfInBounds i true) (a.put oi.dst v) w -> wpAnyC P md ops Q S c (fuel + 1) listed a w := by
 intro fuel
 induction fuel with
 | zero =>
  intro listed a w _ hr hp hy hS H
  have hci : c ≠ i := (hp c hcp).2
  have hil : listed.getD i false = false := by
   have h0 := (mem_ready.1 hr).1
   rcases Nat.lt_or_ge i listed.size with h' | h'
   ·simpa [h'] using h0
   ·simp [h']
  refine ⟨fun h => (by rw [h] at hr; cases hr), fun j hj hjc => ?_, fun hc => absurd hc (chained_spec path i hpath listed hil (fun k hk => (hp k hk).1) c hcp)⟩
  by_cases hji : j = i
  ·subst hji; exact hy.wpOp hi hS ⟨hS, H⟩
  ·have := ready_mono hj hji
   rw [H.1] at this
   cases this
 | succ fuel ih =>
  intro listed a w hfree hr hp hy hS H
  have hil : listed.getD i false = false := by
   have h0 := (mem_ready.1 hr).1
   rcases Nat.lt_or_ge i listed.size with h' | h'
   ·simpa [h'] using h0
   ·simp [h']
  have hnr := chained_spec path i hpath listed hil (fun k hk => (hp k hk).1)
  refine ⟨fun h => (by rw [h] at hr; cases hr), fun j hj hjc => ?_, fun hc => absurd hc (hnr c hcp)⟩
  by_cases hji : j = i
  ·subst hji; exact hy.wpOp hi hS ⟨hS, H⟩
  ·have h1 := H.2.1 j (ready_mono hj hji) hjc
   obtain ⟨hjun, oj, hoj, hall⟩ := mem_ready.1 hj
   have hnot : ∀ e ∈ oj.after, Region.binds md e = true -> e.on ≠ i := fun e he hb heq => by
    have h1 := hall e he hb
    rw [heq, hil] at h1
    cases h1
   have h2 := wpOp_putIf hoj (hfree j oj hoj hji hjun hnot) (fun cs b => hsel i oi cs b hi) (fun cs b => hsel j oj cs b hoj) hQ hy h1
   have hfree' : ∀ k ok, ops[k]? = some ok -> k ≠ i -> (listed.setIfInBounds j true).getD k true = false ->
    (∀ e ∈ ok.after, Region.binds md e = true -> e.on ≠ i) -> oi.apart ops ok = true := fun k ok hk hki hun hno => by
    refine hfree k ok hk hki ?_ hno
    by_cases hjk : j = k
    ·subst hjk; exact hjun
    ·rw [getD_set_ne true hjk] at hun; exact hun
   have hp' : ∀ k ∈ path, (listed.setIfInBounds j true).getD k false = false /\ k ≠ i := fun k hk => by
    refine ⟨?_, (hp k hk).2⟩
    have hjk : j ≠ k := fun e => hnr k hk (e ▸ hj)
    rw [getD_set_ne false hjk]; exact (hp k hk).1
   refine wpOp_mono (fun a' w' h3 => ⟨h3.2.1, ih (listed.setIfInBounds j true) a' w' hfree' (ready_mono hr (Ne.symm hji)) hp' h3.1 h3.2.1 ?_⟩) h2
   rw [Array.setIfInBounds_comm _ _ hji]
   exact h3.2.2
theorem wpAnyC_take {i : Nat} {oi : Oper} {v : Value} {fuel : Nat} {listed : Array Bool} {a : Act} {w : World} (path : List Nat) (hi : ops[i]? = some oi)
 (hs : Region.noSelect ops = true) (hf : Region.free md ops listed i = true) (hr : (Region.ready md ops listed).contains i = true)
 (hpath : (chained md ops (i :: path) && path.contains c && path.all (fun k => !listed.getD k false && k != i)) = true)
 (hQ : ∀ c a w, Q (.panic c) (a.put oi.dst v) w -> Q (.panic c) a w) (hy : YieldsIf P ops S oi v a) (hS : S w)
 (h : wpAnyC P md ops Q S c fuel (listed.setIfInBounds i true) (a.put oi.dst v) w) : wpAnyC P md ops Q S c (fuel + 1) listed a w := by
 simp only [Bool.and_eq_true] at hpath
 refine wpAnyC_first hi hpath.1.1 (by simpa using hpath.1.2) (Region.noSelect_spec hs) hQ fuel listed a w (Region.free_spec hi hf) (by simpa using hr) (fun k hk => ?_) hy hS h
 have := List.all_eq_true.1 hpath.2 k hk
 simp only [Bool.and_eq_true, Bool.not_eq_true', bne_iff_ne] at this
 exact this
theorem wpAnyC_pure_first {i : Nat} {oi : Oper} {v : Value} (hi : ops[i]? = some oi) (hic : i ≠ c) (hsel : ∀ (j : Nat) (o : Oper) cs b, ops[j]? = some o -> o.op ≠ .select cs b)
 (hQ : ∀ c a w, Q (.panic c) (a.put oi.dst v) w -> Q (.panic c) a w) :
 ∀ (fuel : Nat) (listed : Array Bool) (a : Act) (w : World),
  (∀ j oj, ops[j]? = some oj -> j ≠ i -> listed.getD j true = false -> (∀ e ∈ oj.after, Region.binds md e = true -> e.on ≠ i) -> oi.apart ops oj = true) ->
  i ∈ Region.ready md ops listed -> Yields P ops oi v a -> S w ->
  wpAnyC P md ops Q S c fuel (listed.setIfInBounds i true) (a.put oi.dst v) w -> wpAnyC P md ops Q S c (fuel + 1) listed a w := by
 intro fuel
 induction fuel with
 | zero =>
  intro listed a w _ hr hy hS H
  refine ⟨fun h => (by rw [h] at hr; cases hr), fun j hj hjc => ?_, fun hc => ?_⟩
  ·by_cases hji : j = i
   ·subst hji; exact hy.wpOp hi ⟨hS, H⟩
   ·have := ready_mono hj hji
    rw [H.1] at this
    cases this
  ·have := ready_mono hc (Ne.symm hic)
   rw [H.1] at this
   cases this
 | succ fuel ih =>
  intro listed a w hfree hr hy hS H
  have hil : listed.getD i false = false := by
   have h0 := (mem_ready.1 hr).1
   rcases Nat.lt_or_ge i listed.size with h' | h'
   ·simpa [h'] using h0
   ·simp [h']
  have hfree' : ∀ j, j ∈ Region.ready md ops listed -> ∀ k ok, ops[k]? = some ok -> k ≠ i -> (listed.setIfInBounds j true).getD k true = false ->
   (∀ e ∈ ok.after, Region.binds md e = true -> e.on ≠ i) -> oi.apart ops ok = true := fun j hj k ok hk hki hun hno => by
   refine hfree k ok hk hki ?_ hno
   by_cases hjk : j = k
   ·subst hjk; exact (mem_ready.1 hj).1
   ·rw [getD_set_ne true hjk] at hun; exact hun
  have hap : ∀ j oj, ops[j]? = some oj -> j ∈ Region.ready md ops listed -> j ≠ i -> oi.apart ops oj = true := fun j oj hoj hj hji => by
   obtain ⟨hjun, oj', hoj', hall⟩ := mem_ready.1 hj
   rw [hoj] at hoj'
   obtain rfl := Option.some.inj hoj'
   exact hfree j oj hoj hji hjun (fun e he hb heq => by
    have h1 := hall e he hb
    rw [heq, hil] at h1
    cases h1)
  refine ⟨fun h => (by rw [h] at hr; cases hr), fun j hj hjc => ?_, fun hc => ?_⟩
  ·by_cases hji : j = i
   ·subst hji; exact hy.wpOp hi ⟨hS, H⟩
   ·have h1 := H.2.1 j (ready_mono hj hji) hjc
    obtain ⟨hjun, oj, hoj, hall⟩ := mem_ready.1 hj
    have h2 := wpOp_put hoj (hap j oj hoj hj hji) (fun cs b => hsel i oi cs b hi) (fun cs b => hsel j oj cs b hoj) hQ hy h1
    refine wpOp_mono (fun a' w' h3 => ⟨h3.2.1, ih (listed.setIfInBounds j true) a' w' (hfree' j hj) (ready_mono hr (Ne.symm hji)) h3.1 h3.2.1 ?_⟩) h2
    rw [Array.setIfInBounds_comm _ _ hji]
    exact h3.2.2
  ·have h1 := H.2.2 (ready_mono hc (Ne.symm hic))
   obtain ⟨hjun, oj, hoj, hall⟩ := mem_ready.1 hc
   have h2 := wpOp_put hoj (hap c oj hoj hc (Ne.symm hic)) (fun cs b => hsel i oi cs b hi) (fun cs b => hsel c oj cs b hoj) hQ hy h1
   refine wpOp_mono (fun a' w' h3 => wpAny_first hi hsel hQ fuel (listed.setIfInBounds c true) a' w' (hfree' c hc) (ready_mono hr hic) h3.1 ?_) h2
   rw [Array.setIfInBounds_comm _ _ (Ne.symm hic)]
   exact h3.2
theorem wpAnyC_pure {i : Nat} {oi : Oper} {v : Value} {fuel : Nat} {listed : Array Bool} {a : Act} {w : World} (hi : ops[i]? = some oi) (hic : (i != c) = true)
 (hs : Region.noSelect ops = true) (hf : Region.free md ops listed i = true) (hr : (Region.ready md ops listed).contains i = true)
 (hQ : ∀ c a w, Q (.panic c) (a.put oi.dst v) w -> Q (.panic c) a w) (hy : Yields P ops oi v a) (hS : S w)
 (h : wpAnyC P md ops Q S c fuel (listed.setIfInBounds i true) (a.put oi.dst v) w) : wpAnyC P md ops Q S c (fuel + 1) listed a w :=
 wpAnyC_pure_first hi (by simpa using hic) (Region.noSelect_spec hs) hQ fuel listed a w (Region.free_spec hi hf) (by simpa using hr) hy hS h
theorem wpAnyC_one {i : Nat} {oi : Oper} {fuel : Nat} {listed : Array Bool} {a : Act} {w : World} (hi : ops[i]? = some oi) (hr : Region.ready md ops listed = [i]) (hc : (i == c) = false)
 (h : ∀ K' : Act -> World -> Prop, Shut (∀ a w, S w -> wpAnyC P md ops Q S c fuel (listed.setIfInBounds i true) a w -> K' a w) -> if Region.wanted oi (yielded ops a.tmps) = true then Oper.wp P oi a w K' Q else K' (a.put oi.dst undef) w) :
 wpAnyC P md ops Q S c (fuel + 1) listed a w := by
 refine ⟨fun h0 => (by rw [h0] at hr; cases hr), fun j hj _ => ?_, fun hcr => ?_⟩
 ·rw [hr, List.mem_singleton] at hj
  subst hj
  exact wpOp_step hi (fun K' hK => h K' (fun a w hS hW => hK a w ⟨hS, hW⟩))
 ·rw [hr, List.mem_singleton] at hcr
  subst hcr; simp at hc
theorem wpAnyC_two {i j : Nat} {oi oj : Oper} {fuel : Nat} {listed : Array Bool} {a : Act} {w : World} (hi : ops[i]? = some oi) (hj : ops[j]? = some oj) (hr : Region.ready md ops listed = [i, j]) (hci : (i == c) = false) (hcj : (j == c) = false)
 (h1 : ∀ K' : Act -> World -> Prop, Shut (∀ a w, S w -> wpAnyC P md ops Q S c fuel (listed.setIfInBounds i true) a w -> K' a w) -> if Region.wanted oi (yielded ops a.tmps) = true then Oper.wp P oi a w K' Q else K' (a.put oi.dst undef) w)
 (h2 : ∀ K' : Act -> World -> Prop, Shut (∀ a w, S w -> wpAnyC P md ops Q S c fuel (listed.setIfInBounds j true) a w -> K' a w) -> if Region.wanted oj (yielded ops a.tmps) = true then Oper.wp P oj a w K' Q else K' (a.put oj.dst undef) w) :
 wpAnyC P md ops Q S c (fuel + 1) listed a w := by
 refine ⟨fun h0 => (by rw [h0] at hr; cases hr), fun k hk _ => ?_, fun hcr => ?_⟩
 ·rw [hr] at hk
  rcases List.mem_cons.1 hk with hk | hk
  ·subst hk
   exact wpOp_step hi (fun K' hK => h1 K' (fun a w hS hW => hK a w ⟨hS, hW⟩))
  ·rw [List.mem_singleton] at hk
   subst hk
   exact wpOp_step hj (fun K' hK => h2 K' (fun a w hS hW => hK a w ⟨hS, hW⟩))
 ·rw [hr] at hcr
  rcases List.mem_cons.1 hcr with hk | hk
  ·subst hk; simp at hci
  ·rw [List.mem_singleton] at hk
   subst hk; simp at hcj
theorem wpAnyC_c {oi : Oper} {fuel : Nat} {listed : Array Bool} {a : Act} {w : World} (hi : ops[c]? = some oi) (hr : Region.ready md ops listed = [c])
 (h : ∀ K' : Act -> World -> Prop, Shut (∀ a w, wpAny P md ops Q fuel (listed.setIfInBounds c true) a w -> K' a w) -> if Region.wanted oi (yielded ops a.tmps) = true then Oper.wp P oi a w K' Q else K' (a.put oi.dst undef) w) :
 wpAnyC P md ops Q S c (fuel + 1) listed a w := by
 refine ⟨fun h0 => (by rw [h0] at hr; cases hr), fun j hj hjc => ?_, fun _ => wpOp_step hi (fun K' hK => h K' hK)⟩
 rw [hr, List.mem_singleton] at hj
 exact absurd hj hjc
theorem wpAny_one {i : Nat} {oi : Oper} {fuel : Nat} {listed : Array Bool} {a : Act} {w : World} (hi : ops[i]? = some oi) (hr : Region.ready md ops listed = [i])
 (h : ∀ K' : Act -> World -> Prop, Shut (∀ a w, wpAny P md ops Q fuel (listed.setIfInBounds i true) a w -> K' a w) -> if Region.wanted oi (yielded ops a.tmps) = true then Oper.wp P oi a w K' Q else K' (a.put oi.dst undef) w) :
 wpAny P md ops Q (fuel + 1) listed a w := by
 refine ⟨fun h0 => (by rw [h0] at hr; cases hr), fun j hj => ?_⟩
 rw [hr, List.mem_singleton] at hj
 subst hj
 exact wpOp_step hi (fun K' hK => h K' hK)
theorem wp_region_C {id : Nat} {a : Act} {w : World} (S : World -> Prop) (c : Nat) (hm : P.follows .mixedOrders = true)
 (h : wpAnyC P .any ops Q S c ops.size (Array.replicate ops.size false) a w.drew) : (Code.region id ops true).wp P Q a w :=
 wp_region_any hm (wpAny_of_C _ _ _ _ h)
end
end Go.Proofs.YtnjfioikpajhlaaGreat
namespace Go.Proofs.YtnjfioikpajhlaaGreat
open Go.RowKit
theorem setRange_list (off : Nat) : ∀ (L : List Value) (k : Nat) (cs : List Value), off + k + L.length <= cs.length ->
 ((L.zipIdx k).foldl (fun (cs : Array Value) (x : Value × Nat) => cs.setIfInBounds (off + x.2) x.1) cs.toArray) = (cs.take (off + k) ++ L ++ cs.drop (off + k + L.length)).toArray
 | [], k, cs, h => by simp
 | v :: r, k, cs, h => by
  have hlen : off + k < cs.length := by simp at h; omega
  rw [List.zipIdx_cons, List.foldl_cons]
  have e : cs.toArray.setIfInBounds (off + (v, k).2) (v, k).1 = (cs.set (off + k) v).toArray := by simp
  rw [e, setRange_list off r (k + 1) (cs.set (off + k) v) (by simp at h ⊢; omega)]
  congr 1
  rw [<- Nat.add_assoc]
  have h1 : (cs.set (off + k) v).take (off + k + 1) = cs.take (off + k) ++ [v] := by
   rw [List.take_succ_eq_append_getElem (by simpa using hlen), List.take_set_of_le (by omega)]
   simp
  have h2 : (cs.set (off + k) v).drop (off + k + 1 + r.length) = cs.drop (off + k + 1 + r.length) := by
   rw [List.drop_set_of_lt (by omega)]
  rw [h1, h2]
  simp [Nat.add_assoc, Nat.add_comm 1]
theorem setRange (off : Nat) (v : Array Value) (cs : List Value) (h : off + v.size <= cs.length) :
 v.zipIdx.foldl (fun (cs : Array Value) (x : Value × Nat) => cs.setIfInBounds (off + x.2) x.1) cs.toArray = (cs.take off ++ v.toList ++ cs.drop (off + v.size)).toArray := by
 have h1 := setRange_list off v.toList 0 cs (by simpa using h)
 rw [<- Array.foldl_toList, Array.toList_zipIdx]
 simpa using h1
theorem fill_one (place : Nat -> Option (Nat × Nat)) (cs : List Value) (i : Nat) (v : Value) (rest : List (Nat × Value)) (off size : Nat) (hp : place i = some (off, size)) (hv : v.cells.size = size) (h : off + size <= cs.length) :
 Instr.fill place cs.toArray ((i, v) :: rest) = Instr.fill place (cs.take off ++ v.cells.toList ++ cs.drop (off + size)).toArray rest := by
 subst hv
 have hn : ¬ (v.cells.size ≠ v.cells.size || decide (off + v.cells.size > cs.toArray.size)) = true := by simp; omega
 simp only [Instr.fill, hp]
 rw [if_neg hn]
 congr 1
 exact setRange off v.cells cs h
section
variable {P : Program}
theorem built_two (t : TypeId) (fields : Array Field) (it : TypeInfo) (z : Value) (n : Nat) (hu : P.underlying t = some (.struct fields)) (hi : P.info? t = some it) (hz : it.zero = some z) (hsz : z.cells.size = n + 1)
 (hpl : fields.toList.mapM (fun f => (P.info? f.type).map fun i => (f.offset, i.size)) = some [(0, 1), (1, n)]) (a : Value) (ha : a.cells = #[a]) (L : List Value) (hL : L.length = n) :
 P.built t [(0, a), (1, .agg L.toArray)] = some (a :: L).toArray := by
 unfold Program.built
 simp only [hi, hu, hz, hpl]
 have hl : z.cells.toList.length = n + 1 := by simpa using hsz
 have hagg : (Value.agg L.toArray).cells = L.toArray := rfl
 have e0 : z.cells = z.cells.toList.toArray := by simp
 rw [e0]
 generalize z.cells.toList = Z at *
 rw [fill_one _ _ 0 a _ 0 1 rfl (by rw [ha]; rfl) (by omega)]
 rw [fill_one _ _ 1 (.agg L.toArray) _ 1 n rfl (by rw [hagg]; simpa using hL) (by rw [ha]; simp; omega), ha, hagg]
 simp only [Instr.fill]
 congr 1
 apply Array.ext'
 have hd : List.drop (1 + n) Z = [] := List.drop_eq_nil_of_le (by omega)
 have hd2 : List.drop (n + 1) Z = [] := List.drop_eq_nil_of_le (by omega)
 simp
 first | exact hd | exact hd2 | omega
theorem run_buildSlice_one (w : World) (t e : TypeId) (ie : TypeInfo) (z : Value) (v : Value) (hu : P.underlying t = some (.slice e)) (hi : P.info? e = some ie) (hz : ie.zero = some z) (_hsz : z.cells.size = ie.size) (hpos : 0 < ie.size) (hmax : ie.size <= 16777216)
 (hv : v.cells.size = ie.size) : (Instr.buildSlice t 1 #[(0, v)]).run P w = .ok (.slice (some ⟨w.heap.size, 0, none⟩) 1 1) (w.alloc (.cells v.cells e)) := by
 have hn1 : ¬ (1 * ie.size > 2 ^ 24) := by omega
 have hn2 : ¬ (1 * ie.size = 0) := by omega
 have hfill : Instr.fill (fun i => some (i * ie.size, ie.size)) ((Array.range (1 * ie.size)).map (z.cells[· % z.cells.size]!)) [(0, v)] = some v.cells := by
  have e0 : ((Array.range (1 * ie.size)).map (z.cells[· % z.cells.size]!)) = ((List.range ie.size).map (z.cells[· % z.cells.size]!)).toArray := by
   apply Array.ext'
   simp
  rw [e0, fill_one _ _ 0 v _ (0 * ie.size) ie.size rfl hv (by simp)]
  have hd : List.drop (0 * ie.size + ie.size) (List.map (fun x => z.cells[x % z.cells.size]!) (List.range ie.size)) = [] := List.drop_eq_nil_of_le (by simp)
  rw [hd]
  simp [Instr.fill]
 have hsize : (sizeOf e).run P w = .ok ie.size w := by simp [sizeOf, typeInfo, hi]
 have hzero : (zeroValue e).run P w = .ok z w := by simp [zeroValue, typeInfo, hi, hz]
 unfold Instr.buildSlice
 rw [Sem.run_bind, run_underlying hu]
 simp only [Result.andThen_ok]
 rw [Sem.run_bind, hsize]
 simp only [Result.andThen_ok]
 rw [if_neg hn1]
 rw [Nat.one_mul] at hfill hn2
 simp [hzero]
 rw [if_neg hn2, hfill]
 simp [newRow]
theorem exec_build {o : Oper} {ρ : Operand -> Value} {t : TypeId} {parts : Array (Nat × Operand)} {vals : Array (Nat × Value)} {v : Value} {w : World} (ho : o.op = .build t parts) (hv : (parts.map fun (i, x) => (i, ρ x)) = vals)
 (hr : (Instr.build t vals).run P w = .ok v w) : (execOp ρ o).run P w = .ok (.value v) w := by
 unfold execOp
 simp only [ho]
 rw [hv]
 simp [hr, Result.andThen]
theorem wp_buildSlice {o : Oper} {a : Act} {w w' : World} {K : Act -> World -> Prop} {Q : Exit -> Act -> World -> Prop} {t : TypeId} {len : Nat} {parts : Array (Nat × Operand)} {vals : Array (Nat × Value)} {v : Value} (ho : o.op = .buildSlice t len parts)
 (hv : (parts.map fun (i, x) => (i, a.eval x)) = vals) (hr : (Instr.buildSlice t len vals).run P w = .ok v w') (h : K (a.put o.dst v) w') : o.wp P a w K Q := by
 unfold Oper.wp execOp
 simp only [ho]
 rw [hv]
 simp [hr, Result.andThen]
 exact h
end
end Go.Proofs.YtnjfioikpajhlaaGreat
namespace Go.Proofs.YtnjfioikpajhlaaGreat
open Go.RowKit
theorem heap_setCells_other (b : Nat) : ∀ (vs : List Value) (o : Nat) (w : World) (k : Nat), k ≠ b -> (w.setCells b o vs).heap[k]? = w.heap[k]?
 | [], _, _, _, _ => rfl
 | v :: r, o, w, k, h => by
  rw [World.setCells, heap_setCells_other b r (o + 1) _ k h]
  exact Below.heap_setCell _ _ _ _ h
theorem size_setCells (b : Nat) : ∀ (vs : List Value) (o : Nat) (w : World), (w.setCells b o vs).heap.size = w.heap.size
 | [], _, _ => rfl
 | v :: r, o, w => by rw [World.setCells, size_setCells b r (o + 1)]; simp
theorem blk_setCells (b : Nat) (e : TypeId) : ∀ (vs : List Value) (o : Nat) (w : World) (cs : List Value), w.heap[b]? = some (.cells cs.toArray e (0, 0)) -> o + vs.length <= cs.length ->
 (w.setCells b o vs).heap[b]? = some (.cells (cs.take o ++ vs ++ cs.drop (o + vs.length)).toArray e (0, 0))
 | [], o, w, cs, h, _ => by simpa [World.setCells] using h
 | v :: r, o, w, cs, h, hl => by
  have ho : o < cs.length := by simp at hl; omega
  rw [World.setCells, blk_setCells b e r (o + 1) _ (cs.set o v) (blk_set h o v) (by simp at hl ⊢; omega)]
  congr 2
  have h1 : (cs.set o v).take (o + 1) = cs.take o ++ [v] := by
   rw [List.take_succ_eq_append_getElem (by simpa using ho), List.take_set_of_le (by omega)]
   simp
  have h2 : (cs.set o v).drop (o + 1 + r.length) = cs.drop (o + 1 + r.length) := by rw [List.drop_set_of_lt (by omega)]
  rw [h1, h2]
  simp [Nat.add_assoc, Nat.add_comm 1]
theorem meta_setCells (b : Nat) : ∀ (vs : List Value) (o : Nat) (w : World), (w.setCells b o vs).os = w.os /\ (w.setCells b o vs).tape = w.tape /\ (w.setCells b o vs).output = w.output
 | [], _, _ => ⟨rfl, rfl, rfl⟩
 | v :: r, o, w => by rw [World.setCells]; exact meta_setCells b r (o + 1) _
theorem mod_setCells (F : Nat -> Prop) (w : World) (b o : Nat) (vs : List Value) (hb : F b) : Mod F w (w.setCells b o vs) :=
 ⟨(meta_setCells b vs o w).1, (meta_setCells b vs o w).2.1, (meta_setCells b vs o w).2.2, Nat.le_of_eq (size_setCells b vs o w).symm, fun k _ hf => heap_setCells_other b vs o w k (fun e => hf (e ▸ hb))⟩
section
variable {P : Program} {ops : Array Oper} {rest : List Oper} {o : Oper} {a : Act} {Q : Exit -> Act -> World -> Prop}
theorem wpl_alloc (w : World) (hgd : o.guard = none) (e : TypeId) (hop : o.op = .alloc e) (it : TypeInfo) (z : Value) (hi : P.info? e = some it) (hz : it.zero = some z)
 (h : ∀ Z : List Value, Z.length = z.cells.size -> wpList P ops Q rest (a.put o.dst (.pointer (some ⟨w.heap.size, 0, none⟩))) (w.alloc (.cells Z.toArray e))) : wpList P ops Q (o :: rest) a w := by
 refine wpList_plain hgd fun K hK => ?_
 have h2 := h z.cells.toList (by simp)
 unfold Oper.wp execOp
 simp only [hop]
 have hzero : (zeroValue e).run P w = .ok z w := by simp [zeroValue, typeInfo, hi, hz]
 simp [Instr.alloc, hzero, newVar, newRow]
 simp only [Array.toArray_toList] at h2
 exact hK _ _ h2
theorem wpl_store_all (w : World) (hgd : o.guard = none) (ty : TypeId) (x y : Operand) (hop : o.op = .store ty x y) (b : Nat) (e : TypeId) (cs : List Value) (hb : w.heap[b]? = some (.cells cs.toArray e (0, 0)))
 (hx : a.eval x = .pointer (some ⟨b, 0, none⟩)) (L : List Value) (hy : a.eval y = .agg L.toArray) (hl : cs.length = L.length) (hi : (P.info? ty).map (·.size) = some L.length) (h1 : ∀ v ∈ L, v.oneCell' = true)
 (h : ∀ w', w'.heap[b]? = some (.cells L.toArray e (0, 0)) -> Mod (fun k => k = b) w w' -> w'.heap.size = w.heap.size -> wpList P ops Q rest (a.put o.dst undef) w') : wpList P ops Q (o :: rest) a w := by
 refine wpList_store_mid hgd ty x y hop b 0 L.toArray hx hy ?_ (by simpa using hi) (all_oneCell_toArray h1) ?_
 ·intro j hj
  have hj' : j < cs.length := by simp at hj; omega
  rw [Nat.zero_add]
  exact ⟨by rw [blk_cell hb j, List.getElem?_eq_getElem hj']; rfl, blk_free hb j⟩
 ·have h2 := blk_setCells b e L 0 w cs hb (by omega)
  have h3 : cs.take 0 ++ L ++ cs.drop (0 + L.length) = L := by
   rw [List.drop_eq_nil_of_le (by omega)]; simp
  rw [h3] at h2
  have hL : L.toArray.toList = L := by simp
  rw [hL]
  exact h _ h2 (mod_setCells _ w b 0 L rfl) (size_setCells b L 0 w)
theorem range_of_blk {w : World} {b : Nat} {cs : List Value} {e : TypeId} {fr : Nat × Nat} (h : w.heap[b]? = some (.cells cs.toArray e fr)) (o : Nat) (L : List Value) (hL : (cs.drop o).take L.length = L) : w.rangeAt b o L := by
 intro j v hj
 rw [blk_cell h]
 have hj' := (List.getElem?_eq_some_iff.1 hj).1
 rw [<- hL, List.getElem?_take, if_pos hj', List.getElem?_drop] at hj
 exact hj
end
theorem flat_get {α : Type} (f : α -> List Value) (n : Nat) : ∀ (l : List α), (∀ x ∈ l, (f x).length = n) -> ∀ (k : Nat) (hk : k < l.length) (j : Nat), j < n -> (l.flatMap f)[k * n + j]? = (f l[k])[j]?
 | [], _, k, hk, _, _ => by simp at hk
 | x :: r, h, k, hk, j, hj => by
  have hx : (f x).length = n := h x (by simp)
  rw [List.flatMap_cons]
  match k, hk with
  | 0, _ =>
   rw [List.getElem?_append_left (by omega)]
   simp
  | k + 1, hk =>
   have hk' : k < r.length := by simpa using hk
   rw [List.getElem?_append_right (by rw [hx, Nat.succ_mul]; omega), hx]
   have e : (k + 1) * n + j - n = k * n + j := by rw [Nat.succ_mul]; omega
   rw [e, flat_get f n r (fun y hy => h y (by simp [hy])) k hk' j hj]
   simp
theorem own_range {α : Type} {w : World} {base : Nat} {e : TypeId} {v : Value} {l : List α} {f : α -> List Value} {n : Nat} (h : w.ownsRow base e n v l.length (l.flatMap f)) (hf : ∀ x ∈ l, (f x).length = n) (_hn : 0 < n) (k : Nat) (hk : k < l.length) :
 ∃ g cap, v = .slice (some ⟨g, 0, none⟩) l.length cap /\ base <= g /\ g < w.heap.size /\ l.length <= cap /\ cap <= maxLen /\ ∀ i (hi : i < l.length), w.rangeAt g (i * n) (f l[i]) := by
 rcases h.2 with ⟨_, h0⟩ | ⟨g, cap, cur, rfl, hb, hg, hnc, hcm, hcs, htk⟩
 ·omega
 ·refine ⟨g, cap, rfl, hb, blk_lt hg, hnc, hcm, fun i hi j u hj => ?_⟩
  have hj' := (List.getElem?_eq_some_iff.1 hj).1
  rw [hf _ (List.getElem_mem hi)] at hj'
  have h2 := flat_get f n l hf i hi j hj'
  rw [cell_of_row w g _ cur e (0, 0) hg]
  rw [<- htk, hj] at h2
  have hlt : i * n + j < l.length * n := by
   have : (i + 1) * n <= l.length * n := Nat.mul_le_mul_right _ hi
   rw [Nat.succ_mul] at this; omega
  rw [List.getElem?_take, if_pos hlt] at h2
  simpa using h2
end Go.Proofs.YtnjfioikpajhlaaGreat
namespace Go.Proofs.YtnjfioikpajhlaaGreat
open Go.RowKit
section
variable {P : Program} {ops : Array Oper} {Q : Exit -> Act -> World -> Prop} {md : Region.Mode} {S : World -> Prop} {c : Nat} {i : Nat} {oi : Oper} {v : Value} {fuel : Nat} {listed : Array Bool} {a : Act} {w : World}
theorem aC (path : List Nat) (hi : ops[i]? = some oi) (hy : ∀ w, S w -> (execOp a.eval oi).run P w = .ok (.value v) w) (hS : S w)
 (h : wpAnyC P md ops Q S c fuel (listed.setIfInBounds i true) (a.put oi.dst v) w)
 (hs : Region.noSelect ops = true := by kernel_rfl) (hf : Region.free md ops listed i = true := by kernel_rfl) (hr : (Region.ready md ops listed).contains i = true := by kernel_rfl)
 (hp : (chained md ops (i :: path) && path.contains c && path.all (fun k => !listed.getD k false && k != i)) = true := by kernel_rfl)
 (hQ : ∀ c a w, Q (.panic c) (a.put oi.dst v) w -> Q (.panic c) a w := by exact fun _ _ _ h => h) (hw : Region.wanted oi (yielded ops a.tmps) = true := by rfl) : wpAnyC P md ops Q S c (fuel + 1) listed a w :=
 wpAnyC_take path hi hs hf hr hp hQ (Or.inl ⟨hw, hy⟩) hS h
theorem aP (hi : ops[i]? = some oi) (hy : ∀ w, (execOp a.eval oi).run P w = .ok (.value v) w) (hS : S w)
 (h : wpAnyC P md ops Q S c fuel (listed.setIfInBounds i true) (a.put oi.dst v) w)
 (hic : (i != c) = true := by kernel_rfl) (hs : Region.noSelect ops = true := by kernel_rfl) (hf : Region.free md ops listed i = true := by kernel_rfl) (hr : (Region.ready md ops listed).contains i = true := by kernel_rfl)
 (hQ : ∀ c a w, Q (.panic c) (a.put oi.dst v) w -> Q (.panic c) a w := by exact fun _ _ _ h => h) (hw : Region.wanted oi (yielded ops a.tmps) = true := by rfl) : wpAnyC P md ops Q S c (fuel + 1) listed a w :=
 wpAnyC_pure hi hic hs hf hr hQ (Or.inl ⟨hw, hy⟩) hS h
theorem aT (hi : ops[i]? = some oi) (hy : ∀ w, (execOp a.eval oi).run P w = .ok (.value v) w)
 (h : wpAny P md ops Q fuel (listed.setIfInBounds i true) (a.put oi.dst v) w)
 (hs : Region.noSelect ops = true := by kernel_rfl) (hf : Region.free md ops listed i = true := by kernel_rfl) (hr : (Region.ready md ops listed).contains i = true := by kernel_rfl)
 (hQ : ∀ c a w, Q (.panic c) (a.put oi.dst v) w -> Q (.panic c) a w := by exact fun _ _ _ h => h) (hw : Region.wanted oi (yielded ops a.tmps) = true := by rfl) : wpAny P md ops Q (fuel + 1) listed a w :=
 wpAny_take hi hs hf hr hQ (Or.inl ⟨hw, hy⟩) h
theorem qh {p : Prop} (h : p) : Hid p := h
theorem zB {α : Type} (l : List α) (i : Nat) (a : α) : l.toArray.setIfInBounds i a = (l.set i a).toArray := by simp
theorem zC {α : Type} (a b : α) (l : List α) : (a :: l).set 0 b = b :: l := rfl
theorem zD {α : Type} (x a : α) (l : List α) (n : Nat) : (x :: l).set (n + 1) a = x :: l.set n a := rfl
end
end Go.Proofs.YtnjfioikpajhlaaGreat
