/- MSt5: StT StU StV StW Open Acts6. -/
import Derived.Test.YtnjfioikpajhlaaGreatStS
import Derived.Test.YtnjfioikpajhlaaGreatMDisk
import Derived.Test.YtnjfioikpajhlaaGreatPlainY
import Derived.Test.YtnjfioikpajhlaaGreatProg
import Derived.Test.YtnjfioikpajhlaaGreatMBase
import Derived.Test.YtnjfioikpajhlaaGreatMBase
import Derived.OpenShut
import Derived.ChangeSlices
set_option maxRecDepth 100000
set_option maxHeartbeats 64000000
namespace Go.Proofs.YtnjfioikpajhlaaGreat
open Go.RowKit Go.Shelf
structure Act6 where
 kind : Int
 n : Int
 puts : List S6.Pt
 keep : List Bool
def Act6At (w : World) (b o : Nat) (x : Act6) : Prop := ∃ pv kv, w.cell? ⟨b, o, none⟩ = some (.int .i64 x.kind) /\ w.cell? ⟨b, o + 1, none⟩ = some (.int .i64 x.n) /\ w.cell? ⟨b, o + 2, none⟩ = some pv /\ w.cell? ⟨b, o + 3, none⟩ = some kv /\ PutsIn w pv x.puts /\ Reads w kv (x.keep.map Value.bool) /\ (Lit.int .i64 x.kind).wf = true /\ (Lit.int .i64 x.n).wf = true
theorem Act6At.ext {w w' : World} {b o : Nat} {x : Act6} (h : Act6At w b o x) (hx : Ext w w') : Act6At w' b o x := by
 obtain ⟨pv, kv, h0, h1, h2, h3, h4, h5, h6⟩ := h
 exact ⟨pv, kv, hx.cell h0, hx.cell h1, hx.cell h2, hx.cell h3, h4.ext hx, h5.ext hx, h6⟩
def Acts6In (w : World) (v : Value) (l : List Act6) : Prop := ∃ a cap, v = .slice a l.length cap /\ l.length <= 9223372036854775807 /\ (l = [] ∨ ∃ b off, a = some ⟨b, off, none⟩ /\ ∀ r (h : r < l.length), Act6At w b (off + r * 4) l[r])
theorem Acts6In.at {w : World} {a : Option Addr} {n cap : Nat} {l : List Act6} (h : Acts6In w (.slice a n cap) l) (r : Nat) (hr : r < l.length) : ∃ b off, a = some ⟨b, off, none⟩ /\ Act6At w b (off + r * 4) l[r] := by
 obtain ⟨a', cap', hv, _, h4⟩ := h
 obtain ⟨rfl, _, rfl⟩ := Value.slice.inj hv
 rcases h4 with rfl | ⟨b, off, rfl, hc⟩
 ·simp at hr
 ·exact ⟨b, off, rfl, hc r hr⟩
theorem Acts6In.ext {w w' : World} {v : Value} {l : List Act6} (h : Acts6In w v l) (hx : Ext w w') : Acts6In w' v l := by
 obtain ⟨a, cap, hv, hl, h4⟩ := h
 refine ⟨a, cap, hv, hl, ?_⟩
 rcases h4 with h4 | ⟨b, off, hb, hc⟩
 ·exact .inl h4
 ·exact .inr ⟨b, off, hb, fun r hr => (hc r hr).ext hx⟩
theorem Acts6In.nil (w : World) : Acts6In w (.slice none 0 0) [] := ⟨none, 0, rfl, by simp, .inl rfl⟩
theorem Acts6In.shape {w : World} {v : Value} {l : List Act6} (h : Acts6In w v l) : ∃ a cap, v = .slice a l.length cap /\ l.length <= 9223372036854775807 := by
 obtain ⟨a, cap, hv, hl, _⟩ := h
 exact ⟨a, cap, hv, hl⟩
end Go.Proofs.YtnjfioikpajhlaaGreat
namespace Go.Proofs.YtnjfioikpajhlaaGreat
open Go.RowKit Go.Shelf
end Go.Proofs.YtnjfioikpajhlaaGreat
namespace Go.Proofs.YtnjfioikpajhlaaGreat
open Go.RowKit Go.Shelf
namespace S6
theorem range_mem {l : List Pr} {f t : Key} {p : Pr} (h : p ∈ range l f t) : p ∈ l /\ ¬ p.key < f /\ (t = [] ∨ p.key < t) := by
 obtain ⟨h1, h2⟩ := List.mem_filter.1 h
 unfold inR at h2
 simp only [Bool.and_eq_true, Bool.not_eq_true', decide_eq_false_iff_not, Bool.or_eq_true, decide_eq_true_eq] at h2
 exact ⟨h1, h2.1, h2.2⟩
end S6
section
variable {w1 w2 : World}
theorem pairs6_ext {v : Value} {us : List Value} {ps : List S6.Pr} (hP : PairsO w2 w1.heap.size v us ps) (hx : Ext w1 w2) (hl : ps.length <= 900000) (hvl : ∀ p ∈ ps, p.val.length <= 1000000) :
 Calls Tryz.prog 18 #[v] w2 fun e w' => ∃ v', e = .returned v' /\ w'.ownsRow w1.heap.size 127 3 v' ps.length (prcs ps (svals ps)) /\ Ext w1 w' := by
 refine (pairs6_any w2 w1.heap.size v us ps hP hl hvl).mono ?_
 rintro e w3 ⟨v3, rfl, hown3, hm3⟩
 exact ⟨v3, rfl, ownsRow_base5 hown3 hx.size, Mod.ext hx hm3 (fun z hz => (hP.vf_lt _ z hz).1)⟩
theorem own_any {w : World} {base : Nat} {e : TypeId} {size : Nat} {v : Value} {n : Nat} {xs : List Value} (h : w.ownsRow base e size v n xs) : ∃ a c, v = .slice a n c := by
 rcases h.2 with ⟨h9, h10⟩ | ⟨g, cp, cur, h9, _⟩
 ·exact ⟨_, _, by rw [h9, h10]⟩
 ·exact ⟨_, _, h9⟩
end
end Go.Proofs.YtnjfioikpajhlaaGreat
namespace Go.Proofs.YtnjfioikpajhlaaGreat
open Go.RowKit Go.Shelf
theorem wvals_get (ws : List S6.Wr) (i : Nat) (h : i < ws.length) (k : i < (wvals ws).length) : (wvals ws)[i] = strV ws[i].val := by simp [wvals]
theorem wvals_one (ws : List S6.Wr) : ∀ u ∈ wvals ws, u.oneCell' = true := by
 intro u hu
 obtain ⟨p, _, rfl⟩ := List.mem_map.1 hu
 rfl
def RWs (w : World) (v : Value) (ws : List S6.Wr) : Prop := ReadsN 4 w v ws.length (wrcs ws (wvals ws))
theorem RWs.ext {w w' : World} {v : Value} {ws : List S6.Wr} (h : RWs w v ws) (he : Ext w w') : RWs w' v ws := ReadsN.ext h he
theorem RWs.of_own {w : World} {base : Nat} {e : TypeId} {v : Value} {ws : List S6.Wr} (h : w.ownsRow base e 4 v ws.length (wrcs ws (wvals ws))) : RWs w v ws := ReadsN.of_own h (wrcs_one _ _ (wvals_one ws))
theorem RWs.shape {w : World} {v : Value} {ws : List S6.Wr} (h : RWs w v ws) : ws.length <= 9223372036854775807 /\ ∃ a cap, v = .slice a ws.length cap /\ ∀ i (h : i < ws.length), ∃ b off, a = some ⟨b, off, none⟩ /\
 w.cell? ⟨b, off + i * 4, none⟩ = some (strV ws[i].key) /\ w.cell? ⟨b, off + i * 4 + 1, none⟩ = some (strV ws[i].val) /\ w.cell? ⟨b, off + i * 4 + 2, none⟩ = some (.bool ws[i].drop) /\ w.cell? ⟨b, off + i * 4 + 3, none⟩ = some (.int .u64 (ws[i].ver : Int)) := by
 obtain ⟨a, cap, hv, h0, h1, h2, hn, h3, h4⟩ := h
 unfold maxLen at h2
 refine ⟨by omega, a, cap, hv, fun i hi => ?_⟩
 rcases h4 with h4 | ⟨b, off, rfl, hc⟩
 ·omega
 ·have g : ∀ j, j < 4 -> (wrcs ws (wvals ws))[i * 4 + j]? = (wrc ws[i] (strV ws[i].val))[j]? := fun j hj => by rw [wrcs_get ws (wvals ws) i hi (wvals_len ws) j hj, wvals_get ws i hi]
  exact ⟨b, off, rfl, hc _ _ (g 0 (by omega)), by rw [Nat.add_assoc]; exact hc _ _ (g 1 (by omega)), by rw [Nat.add_assoc]; exact hc _ _ (g 2 (by omega)), by rw [Nat.add_assoc]; exact hc _ _ (g 3 (by omega))⟩
def BoxK (w : World) (b : Nat) (v : Value) (num : Nat) : Prop :=
 w.cell? ⟨b, 0, none⟩ = some (.int .i64 0) /\ w.cell? ⟨b, 1, none⟩ = some (.slice none 0 0) /\ w.cell? ⟨b, 2, none⟩ = some (.slice none 0 0) /\ w.cell? ⟨b, 3, none⟩ = some (.bool false) /\ w.cell? ⟨b, 4, none⟩ = some (.bool false) /\ w.cell? ⟨b, 5, none⟩ = some (.int .i64 0) /\ w.cell? ⟨b, 6, none⟩ = some (.int .u32 0) /\ w.cell? ⟨b, 7, none⟩ = some (.slice none 0 0) /\ w.cell? ⟨b, 8, none⟩ = some (.bool false) /\ w.cell? ⟨b, 9, none⟩ = some v /\ w.cell? ⟨b, 10, none⟩ = some (.int .u64 (num : Int)) /\ w.cell? ⟨b, 11, none⟩ = some (.bool false)
theorem BoxK.ext {w w' : World} {b : Nat} {v : Value} {num : Nat} (h : BoxK w b v num) (he : Ext w w') : BoxK w' b v num := by
 obtain ⟨a0, a1, a2, a3, a4, a5, a6, a7, a8, a9, a10, a11⟩ := h
 exact ⟨he.cell a0, he.cell a1, he.cell a2, he.cell a3, he.cell a4, he.cell a5, he.cell a6, he.cell a7, he.cell a8, he.cell a9, he.cell a10, he.cell a11⟩
theorem BoxK.keeps {X : Nat -> Prop} {w w' : World} {b : Nat} {v : Value} {num : Nat} (h : BoxK w b v num) (he : Keeps X w w') (hX : X b) : BoxK w' b v num := by
 obtain ⟨a0, a1, a2, a3, a4, a5, a6, a7, a8, a9, a10, a11⟩ := h
 exact ⟨Keeps.cell he a0 hX, Keeps.cell he a1 hX, Keeps.cell he a2 hX, Keeps.cell he a3 hX, Keeps.cell he a4 hX, Keeps.cell he a5 hX, Keeps.cell he a6 hX, Keeps.cell he a7 hX, Keeps.cell he a8 hX, Keeps.cell he a9 hX, Keeps.cell he a10 hX, Keeps.cell he a11 hX⟩
end Go.Proofs.YtnjfioikpajhlaaGreat
namespace Go.Proofs.YtnjfioikpajhlaaGreat
open Go.RowKit Go.ChangeShapes Go.WideShapes Go.ChangeAt
section
variable {H : Type} {enc : TypeId × Value -> H} {P : Program} {w : World} {base : Nat} {spare : Nat -> Bool} {held : Bool}
theorem open_cells {t e : TypeId} {fuel : Nat} {v : Value} {x : DataW H × List MemPlace} (ht : P.underlying t = some (.slice e)) (hc : P.cellsOf e = 1) (h : DataW.trod enc P w base spare held fuel t [v] = some x) :
 v = .slice none 0 0 ∨ ∃ (a : Addr) (len cap n : Nat), v = .slice (some a) len cap /\ len <= cap /\ cap <= maxLen /\ ∀ i, i < len -> ∃ u y, w.cell? (a.add i) = some u /\ DataW.trod enc P w base spare held n e [u] = some y := by
 rcases DataW.trod_slice ht h with ⟨hcs, _⟩ | ⟨a, len, cap, elems, rest, n, _, hcs, _, _, hl, hm, hlen, hel, _⟩
 ·left; simpa using hcs
 ·right
  refine ⟨a, len, cap, n, by simpa using hcs, hl, hm, fun i hi => ?_⟩
  have h1 := hel i hi
  rw [hc, Nat.mul_one] at h1
  have hy : elems[i]? = some (elems[i]'(by omega)) := List.getElem?_eq_getElem (by omega)
  rw [hy, Option.bind_eq_some_iff] at h1
  obtain ⟨cs, h2, h3⟩ := h1
  obtain ⟨_, hcl, hat⟩ := World.cells?_some h2
  have h4 := hat 0 (by omega)
  match cs, hcl with
  | [u], _ =>
   refine ⟨u, _, ?_, h3⟩
   have e0 : (a.add i).add 0 = a.add i := by simp [Addr.add]
   rw [e0] at h4
   simpa using h4
theorem trod_bool_inv {t : TypeId} (ht : P.underlying t = some .bool) {fuel : Nat} {v : Value} {x : DataW H × List MemPlace} (h : DataW.trod enc P w base spare held fuel t [v] = some x) : ∃ b, v = .bool b := by
 cases fuel with
 | zero => simp [DataW.trod] at h
 | succ n => cases v <;> simp [DataW.trod, ht] at h ⊢
theorem reads_of {α : Type} (g : α -> Value) (hg : ∀ x, (g x).oneCell' = true) (x0 : α) {a : Addr} {len cap : Nat} (hl : len <= cap) (hm : cap <= maxLen) (R : α -> Prop) (h : ∀ i, i < len -> ∃ x, w.cell? (a.add i) = some (g x) /\ R x) :
 ∃ l : List α, l.length = len /\ Reads w (.slice (some a) len cap) (l.map g) /\ ∀ x ∈ l, R x := by
 have each : ∀ i, ∃ x : α, i < len -> w.cell? (a.add i) = some (g x) /\ R x := fun i => by
  by_cases hi : i < len
  ·obtain ⟨x, hx⟩ := h i hi; exact ⟨x, fun _ => hx⟩
  ·exact ⟨x0, fun h => absurd h hi⟩
 obtain ⟨U, hU⟩ := Classical.axiomOfChoice each
 refine ⟨(List.range len).map U, by simp, ⟨some a, cap, by simp, by simpa using hl, hm, by simp, ?_, ?_⟩, ?_⟩
 ·intro u hu
  obtain ⟨x, _, rfl⟩ := List.mem_map.1 hu
  exact hg x
 ·by_cases h0 : len = 0
  ·left; subst h0; rfl
  ·right
   obtain ⟨b, off, spot⟩ := a
   have hc0 := (hU 0 (by omega)).1
   have hs : spot = none := by simpa [Addr.add] using World.cell?_spot hc0
   subst hs
   refine ⟨b, off, rfl, fun j u hj => ?_⟩
   have hj' : j < len := by
    have := (List.getElem?_eq_some_iff.1 hj).1
    simpa using this
   have h := (hU j (by omega)).1
   rw [Addr.add_lit] at h
   rw [h]
   simp [hj'] at hj
   exact congrArg some hj
 ·intro x hx
  obtain ⟨i, hi, rfl⟩ := List.mem_map.1 hx
  exact (hU i (List.mem_range.1 hi)).2
end
theorem open_bools {H : Type} {enc : TypeId × Value -> H} {w : World} {base : Nat} {spare : Nat -> Bool} {held : Bool} {fuel : Nat} {v : Value} {x : DataW H × List MemPlace} (h : DataW.trod enc Tryz.prog w base spare held fuel 45 [v] = some x) :
 ∃ l : List Bool, Reads w v (l.map Value.bool) := by
 rcases open_cells Tryz.underlying45 (by kernel_rfl) h with rfl | ⟨a, len, cap, n, rfl, hl, hm, hc⟩
 ·exact ⟨[], Reads.nil w⟩
 ·obtain ⟨l, _, hr, _⟩ := reads_of (w := w) Value.bool (fun _ => rfl) false hl hm (fun _ => True) (fun i hi => by
   obtain ⟨u, y, h1, h2⟩ := hc i hi
   obtain ⟨b, rfl⟩ := trod_bool_inv Tryz.underlying4 h2
   exact ⟨b, h1, trivial⟩)
  exact ⟨l, hr⟩
end Go.Proofs.YtnjfioikpajhlaaGreat
namespace Go.Proofs.YtnjfioikpajhlaaGreat
open Go.RowKit Go.ChangeShapes Go.WideShapes Go.ChangeAt
theorem wf_u64s {n : Int} (h : (Lit.int .u64 n).wf = true) : 0 <= n /\ n < 18446744073709551616 := by
 simp [Lit.wf, IntKind.min, IntKind.max, IntKind.bits, IntKind.signed] at h; omega
theorem strV_of (s : ByteArray) : Value.string s = strV s.data.toList := by unfold strV; simp
section
variable {H : Type} {enc : TypeId × Value -> H} {w : World} {base : Nat} {spare : Nat -> Bool} {held : Bool}
theorem open_bytes {fuel : Nat} {v : Value} {x : DataW H × List MemPlace} (h : DataW.trod enc Tryz.prog w base spare held fuel 56 [v] = some x) : ∃ l : List UInt8, Bs w v l := by
 rcases open_cells Tryz.underlying56 (by kernel_rfl) h with rfl | ⟨a, len, cap, n, rfl, hl, hm, hc⟩
 ·exact ⟨[], Bs.nil w⟩
 ·obtain ⟨l, _, hr, _⟩ := reads_of (w := w) byteVal (fun _ => rfl) 0 hl hm (fun _ => True) (fun i hi => by
   obtain ⟨u, y, h1, h2⟩ := hc i hi
   obtain ⟨m, hm, _, hw⟩ := DataW.trod_int Tryz.underlying5 h2
   obtain rfl : u = .int .u8 m := by simpa using hm
   have hw2 := wf_u8 hw
   refine ⟨UInt8.ofNat m.toNat, ?_, trivial⟩
   rw [h1]
   unfold byteVal
   congr 2
   have h3 : (UInt8.ofNat m.toNat).toNat = m.toNat := by simp; omega
   rw [h3]; omega)
  exact ⟨l, hr⟩
theorem open_put {fuel : Nat} {a : Addr} {cs : List Value} {y : DataW H × List MemPlace} (hc : w.cells? base a 5 = some cs) (h : DataW.trod enc Tryz.prog w base spare held fuel 103 cs = some y) :
 ∃ b o, a = ⟨b, o, none⟩ /\ ∃ x, PutAt w b o x := by
 obtain ⟨_, hcl, hat⟩ := World.cells?_some hc
 obtain ⟨xs, n, _, _, _, hxl, hf⟩ := DataW.trod_struct Tryz.underlying103 h
 match cs, hcl with
 | [c0, c1, c2, c3, c4], _ =>
  have g0 := hat 0 (by omega)
  have g1 := hat 1 (by omega)
  have g2 := hat 2 (by omega)
  have g3 := hat 3 (by omega)
  have g4 := hat 4 (by omega)
  obtain ⟨b, o, spot⟩ := a
  have hs : spot = none := by simpa [Addr.add] using World.cell?_spot g0
  subst hs
  simp only [Addr.add_lit, List.getElem?_cons_zero, List.getElem?_cons_succ] at g0 g1 g2 g3 g4
  have ct0 : Tryz.prog.cellsOf 56 = 1 := by kernel_rfl
  have ct1 : Tryz.prog.cellsOf 4 = 1 := by kernel_rfl
  have ct2 : Tryz.prog.cellsOf 3 = 1 := by kernel_rfl
  have ct3 : Tryz.prog.cellsOf 9 = 1 := by kernel_rfl
  have ct4 : Tryz.prog.cellsOf 39 = 1 := by kernel_rfl
  have hl5 : xs.length = 5 := hxl
  have f0 : DataW.trod enc Tryz.prog w base spare held n 9 (([c0, c1, c2, c3, c4].drop 0).take (Tryz.prog.cellsOf 9)) = xs[0]? := hf 0 _ rfl
  have f1 : DataW.trod enc Tryz.prog w base spare held n 56 (([c0, c1, c2, c3, c4].drop 1).take (Tryz.prog.cellsOf 56)) = xs[1]? := hf 1 _ rfl
  have f2 : DataW.trod enc Tryz.prog w base spare held n 3 (([c0, c1, c2, c3, c4].drop 2).take (Tryz.prog.cellsOf 3)) = xs[2]? := hf 2 _ rfl
  have f3 : DataW.trod enc Tryz.prog w base spare held n 4 (([c0, c1, c2, c3, c4].drop 3).take (Tryz.prog.cellsOf 4)) = xs[3]? := hf 3 _ rfl
  have f4 : DataW.trod enc Tryz.prog w base spare held n 39 (([c0, c1, c2, c3, c4].drop 4).take (Tryz.prog.cellsOf 39)) = xs[4]? := hf 4 _ rfl
  rw [List.getElem?_eq_getElem (by omega)] at f0 f1 f2 f3 f4
  simp only [ct0, ct1, ct2, ct3, ct4, List.drop_zero, List.drop_succ_cons, List.take_succ_cons, List.take_zero] at f0 f1 f2 f3 f4
  obtain ⟨s0, e0, _, _⟩ := DataW.trod_string Tryz.underlying9 f0
  obtain rfl : c0 = .string s0 := by simpa using e0
  obtain ⟨l1, hb1⟩ := open_bytes f1
  obtain ⟨m2, e2, _, w2⟩ := DataW.trod_int Tryz.underlying3 f2
  obtain rfl : c2 = .int .i64 m2 := by simpa using e2
  obtain ⟨m3, e3, _⟩ := DataW.trod_bool Tryz.underlying4 f3
  obtain rfl : c3 = .bool m3 := by simpa using e3
  obtain ⟨m4, e4, _, w4⟩ := DataW.trod_int Tryz.underlying39 f4
  obtain rfl : c4 = .int .u64 m4 := by simpa using e4
  obtain ⟨n4, hn4⟩ : ∃ n : Nat, m4 = (n : Int) := ⟨m4.toNat, by have := wf_u64s w4; omega⟩
  have v4 : n4 < 18446744073709551616 := by have := wf_u64s w4; omega
  subst hn4
  exact ⟨b, o, rfl, ⟨s0.data.toList, l1, m2, m3, n4⟩, c1, by simpa [strV_of] using g0, by simpa using g1, by simpa using g2, by simpa using g3, by simpa using g4, hb1, v4⟩
theorem open_puts {fuel : Nat} {v : Value} {x : DataW H × List MemPlace} (h : DataW.trod enc Tryz.prog w base spare held fuel 44 [v] = some x) : ∃ l : List S6.Pt, PutsIn w v l := by
 rcases DataW.trod_slice Tryz.underlying44 h with ⟨hcs, _⟩ | ⟨a, len, cap, elems, rest, n, _, hcs, _, _, hl, hm, hlen, hel, _⟩
 ·exact ⟨[], none, 0, by simpa using hcs, by simp, .inl rfl⟩
 ·have c5 : Tryz.prog.cellsOf 103 = 5 := by kernel_rfl
  obtain rfl : v = .slice (some a) len cap := by simpa using hcs
  have at_ : ∀ i, i < len -> ∃ b o, a.add (i * 5) = ⟨b, o, none⟩ /\ ∃ x, PutAt w b o x := fun i hi => by
   have h1 := hel i hi
   rw [c5] at h1
   have hy : elems[i]? = some (elems[i]'(by omega)) := List.getElem?_eq_getElem (by omega)
   rw [hy, Option.bind_eq_some_iff] at h1
   obtain ⟨cs, h2, h3⟩ := h1
   exact open_put h2 h3
  by_cases h0 : len = 0
  ·subst h0; exact ⟨[], some a, cap, rfl, by simp, .inl rfl⟩
  ·obtain ⟨b, o, e0, _⟩ := at_ 0 (by omega)
   have e1 : a.add (0 * 5) = a := by simp [Addr.add]
   rw [e1] at e0
   subst e0
   have each : ∀ i, ∃ x : S6.Pt, i < len -> PutAt w b (o + i * 5) x := fun i => by
    by_cases hi : i < len
    ·obtain ⟨b2, o2, e, x, hx⟩ := at_ i hi
     rw [Addr.add_lit] at e
     obtain ⟨rfl, rfl, _⟩ := Addr.mk.inj e
     exact ⟨x, fun _ => hx⟩
    ·exact ⟨⟨[], [], 0, false, 0⟩, fun h => absurd h hi⟩
   obtain ⟨U, hU⟩ := Classical.axiomOfChoice each
   refine ⟨(List.range len).map U, some ⟨b, o, none⟩, cap, by simp, by unfold maxLen at hm; simp; omega, ?_⟩
   right
   refine ⟨b, o, rfl, fun r hr => ?_⟩
   have hr' : r < len := by simpa using hr
   simpa using hU r hr'
end
end Go.Proofs.YtnjfioikpajhlaaGreat
