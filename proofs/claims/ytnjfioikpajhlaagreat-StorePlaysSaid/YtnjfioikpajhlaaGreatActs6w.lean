import Derived.SizedLaws
import Derived.Test.YtnjfioikpajhlaaGreatMSt5
import Derived.OpenShut
import Derived.ChangeSlices
set_option maxRecDepth 100000
set_option maxHeartbeats 64000000
/- The law's script of calls of the store, opened, with what the form's reach says. -/
namespace Go.Proofs.YtnjfioikpajhlaaGreat
open Go.RowKit Go.ChangeShapes Go.WideShapes Go.ChangeAt
def Wt {H : Type} (t : TypeId) (d : DataW H) : Prop := ∀ n ∈ d.weights Tryz.prog t, n <= 140737488355328
theorem mem_weightsAll {H : Type} {e : TypeId} {d : DataW H} {n : Nat} : ∀ {l : List (DataW H)}, d ∈ l -> n ∈ d.weights Tryz.prog e -> n ∈ DataW.weightsAll Tryz.prog e l
 | [], h, _ => by cases h
 | x :: r, h, hn => by
  simp only [DataW.weightsAll, List.mem_append]
  rcases List.mem_cons.1 h with rfl | h
  ·exact .inl hn
  ·exact .inr (mem_weightsAll h hn)
section
variable {H : Type} {enc : TypeId × Value -> H} {w : World} {base : Nat} {spare : Nat -> Bool} {held : Bool}
theorem wt_struct {t : TypeId} {fs : Array Field} (hu : Tryz.prog.underlying t = some (.struct fs)) {xs : List (DataW H × List MemPlace)} {p : List MemPlace} {y : DataW H × List MemPlace} (h : y = (.agg (xs.map (·.1)), p)) (hB : Wt t y.1) (i : Nat) (f : Field) (hf : fs[i]? = some f) (hi : i < xs.length) : Wt f.type xs[i].1 := by
 subst h
 intro n hn
 refine hB n ?_
 simp only [DataW.weights, hu]
 refine DataW.weights_mem_each (j := i) (t := f.type) (d := xs[i].1) ?_ ?_ n hn
 ·rw [List.getElem?_map, Array.getElem?_toList, hf]; rfl
 ·rw [List.getElem?_map, List.getElem?_eq_getElem hi]; rfl
theorem wt_slice {t e : TypeId} (hu : Tryz.prog.underlying t = some (.slice e)) {xs rest : List (DataW H × List MemPlace)} {p : List MemPlace} {y : DataW H × List MemPlace} (h : y = (.slice (xs.map (·.1)) (rest.map (·.1)), p)) (hB : Wt t y.1) (i : Nat) (hi : i < xs.length) : Wt e xs[i].1 := by
 subst h
 intro n hn
 refine hB n ?_
 simp only [DataW.weights, hu]
 exact List.mem_cons_of_mem _ (List.mem_append_left _ (mem_weightsAll (List.mem_map.2 ⟨xs[i], List.getElem_mem hi, rfl⟩) hn))
theorem open_boolsw {fuel : Nat} {v : Value} {x : DataW H × List MemPlace} (h : DataW.trod enc Tryz.prog w base spare held fuel 45 [v] = some x) (hB : Wt 45 x.1) : ∃ l : List Bool, Reads w v (l.map Value.bool) /\ l.length <= 140737488355328 := by
 obtain ⟨l, hl⟩ := open_bools h
 refine ⟨l, hl, ?_⟩
 obtain ⟨a2, cap2, hv⟩ := hl.shape
 rw [List.length_map] at hv
 rcases DataW.trod_slice Tryz.underlying45 h with ⟨hcs, _⟩ | ⟨a, len, cap, elems, rest, n, _, hcs, hx, _, _, _, hlen, _⟩
 ·have e : v = .slice none 0 0 := by simpa using hcs
  rw [e] at hv
  have := (Value.slice.inj hv).2.1
  omega
 ·have e : v = .slice (some a) len cap := by simpa using hcs
  rw [e] at hv
  have hll := (Value.slice.inj hv).2.1
  subst hx
  have hb : Tryz.prog.bytesOf 4 = 1 := by kernel_rfl
  have h9 := hB ((elems.length + rest.length) * 1) (by simp [DataW.weights, Tryz.underlying45, hb])
  omega
theorem open_act6w {fuel : Nat} {a : Addr} {cs : List Value} {y : DataW H × List MemPlace} (hc : w.cells? base a 4 = some cs) (h : DataW.trod enc Tryz.prog w base spare held fuel 47 cs = some y) (hB : Wt 47 y.1) :
 ∃ b o, a = ⟨b, o, none⟩ /\ ∃ x : Act6, Act6At w b o x /\ x.keep.length <= 140737488355328 := by
 obtain ⟨_, hcl, hat⟩ := World.cells?_some hc
 obtain ⟨xs, n, _, hy, _, hxl, hf⟩ := DataW.trod_struct Tryz.underlying47 h
 match cs, hcl with
 | [c0, c1, c2, c3], _ =>
  have g0 := hat 0 (by omega)
  have g1 := hat 1 (by omega)
  have g2 := hat 2 (by omega)
  have g3 := hat 3 (by omega)
  obtain ⟨b, o, spot⟩ := a
  have hs : spot = none := by simpa [Addr.add] using World.cell?_spot g0
  subst hs
  simp only [Addr.add_lit, List.getElem?_cons_zero, List.getElem?_cons_succ] at g0 g1 g2 g3
  have ct0 : Tryz.prog.cellsOf 45 = 1 := by kernel_rfl
  have ct1 : Tryz.prog.cellsOf 44 = 1 := by kernel_rfl
  have ct2 : Tryz.prog.cellsOf 3 = 1 := by kernel_rfl
  have hl5 : xs.length = 4 := hxl
  have f0 : DataW.trod enc Tryz.prog w base spare held n 3 (([c0, c1, c2, c3].drop 0).take (Tryz.prog.cellsOf 3)) = xs[0]? := hf 0 _ rfl
  have f1 : DataW.trod enc Tryz.prog w base spare held n 3 (([c0, c1, c2, c3].drop 1).take (Tryz.prog.cellsOf 3)) = xs[1]? := hf 1 _ rfl
  have f2 : DataW.trod enc Tryz.prog w base spare held n 44 (([c0, c1, c2, c3].drop 2).take (Tryz.prog.cellsOf 44)) = xs[2]? := hf 2 _ rfl
  have f3 : DataW.trod enc Tryz.prog w base spare held n 45 (([c0, c1, c2, c3].drop 3).take (Tryz.prog.cellsOf 45)) = xs[3]? := hf 3 _ rfl
  rw [List.getElem?_eq_getElem (by omega)] at f0 f1 f2 f3
  simp only [ct0, ct1, ct2, List.drop_zero, List.drop_succ_cons, List.take_succ_cons, List.take_zero] at f0 f1 f2 f3
  obtain ⟨m0, e0, _, w0⟩ := DataW.trod_int Tryz.underlying3 f0
  obtain rfl : c0 = .int .i64 m0 := by simpa using e0
  obtain ⟨m1, e1, _, w1⟩ := DataW.trod_int Tryz.underlying3 f1
  obtain rfl : c1 = .int .i64 m1 := by simpa using e1
  obtain ⟨l2, hb2⟩ := open_puts f2
  obtain ⟨l3, hb3, hl3⟩ := open_boolsw f3 (wt_struct Tryz.underlying47 hy hB 3 _ rfl (by omega))
  exact ⟨b, o, rfl, ⟨m0, m1, l2, l3⟩, ⟨c2, c3, by simpa using g0, by simpa using g1, by simpa using g2, by simpa using g3, hb2, hb3, w0, w1⟩, hl3⟩
theorem open_acts6w {fuel : Nat} {v : Value} {x : DataW H × List MemPlace} (h : DataW.trod enc Tryz.prog w base spare held fuel 22 [v] = some x) (hB : Wt 22 x.1) : ∃ l : List Act6, Acts6In w v l /\ ∀ x ∈ l, x.keep.length <= 140737488355328 := by
 rcases DataW.trod_slice Tryz.underlying22 h with ⟨hcs, _⟩ | ⟨a, len, cap, elems, rest, n, _, hcs, hx, _, hl, hm, hlen, hel, _⟩
 ·exact ⟨[], ⟨none, 0, by simpa using hcs, by simp, .inl rfl⟩, fun x hx => by cases hx⟩
 ·have c5 : Tryz.prog.cellsOf 47 = 4 := by kernel_rfl
  obtain rfl : v = .slice (some a) len cap := by simpa using hcs
  have at_ : ∀ i, i < len -> ∃ b o, a.add (i * 4) = ⟨b, o, none⟩ /\ ∃ x : Act6, Act6At w b o x /\ x.keep.length <= 140737488355328 := fun i hi => by
   have h1 := hel i hi
   rw [c5] at h1
   have hy : elems[i]? = some (elems[i]'(by omega)) := List.getElem?_eq_getElem (by omega)
   rw [hy, Option.bind_eq_some_iff] at h1
   obtain ⟨cs, h2, h3⟩ := h1
   exact open_act6w h2 h3 (wt_slice Tryz.underlying22 hx hB i (by omega))
  by_cases h0 : len = 0
  ·subst h0; exact ⟨[], ⟨some a, cap, rfl, by simp, .inl rfl⟩, fun x hx => by cases hx⟩
  ·obtain ⟨b, o, e0, _⟩ := at_ 0 (by omega)
   have e1 : a.add (0 * 4) = a := by simp [Addr.add]
   rw [e1] at e0
   subst e0
   have each : ∀ i, ∃ x : Act6, i < len -> Act6At w b (o + i * 4) x /\ x.keep.length <= 140737488355328 := fun i => by
    by_cases hi : i < len
    ·obtain ⟨b2, o2, e, x, hx⟩ := at_ i hi
     rw [Addr.add_lit] at e
     obtain ⟨rfl, rfl, _⟩ := Addr.mk.inj e
     exact ⟨x, fun _ => hx⟩
    ·exact ⟨⟨0, 0, [], []⟩, fun h => absurd h hi⟩
   obtain ⟨U, hU⟩ := Classical.axiomOfChoice each
   refine ⟨(List.range len).map U, ⟨some ⟨b, o, none⟩, cap, by simp, by unfold maxLen at hm; simp; omega, ?_⟩, fun y hy => by obtain ⟨i, hi, rfl⟩ := List.mem_map.1 hy; exact (hU i (List.mem_range.1 hi)).2⟩
   right
   refine ⟨b, o, rfl, fun r hr => ?_⟩
   have hr' : r < len := by simpa using hr
   simpa using (hU r hr').1
end
end Go.Proofs.YtnjfioikpajhlaaGreat
