import Derived.SizedLaws
import Derived.Test.YtnjfioikpajhlaaRefF6
import Derived.Test.YtnjfioikpajhlaaActs6
import Derived.OpenShut
import Derived.ChangeSlices
/- The law's records by hand, in memory; opened, with what the form's reach says. -/
namespace Go.Proofs.Ytnjfioikpajhlaa
open Go.RowKit Go.ChangeShapes Go.WideShapes Go.ChangeAt

theorem RWs.mk {w : World} {b off cap : Nat} {ws : List S6.Wr} (h1 : ws.length ≤ cap) (h2 : cap ≤ maxLen) (hc : ∀ i (h : i < ws.length), w.cell? ⟨b, off + i * 4, none⟩ = some (strV ws[i].key) ∧ w.cell? ⟨b, off + i * 4 + 1, none⟩ = some (strV ws[i].val) ∧ w.cell? ⟨b, off + i * 4 + 2, none⟩ = some (.bool ws[i].drop) ∧ w.cell? ⟨b, off + i * 4 + 3, none⟩ = some (.int .u64 (ws[i].ver : Int))) :
    RWs w (.slice (some ⟨b, off, none⟩) ws.length cap) ws := by
  refine ⟨some ⟨b, off, none⟩, cap, rfl, wrcs_len _ _ (wvals_len ws), h1, h2, (fun h => by cases h), wrcs_one _ _ (wvals_one ws), .inr ⟨b, off, rfl, fun j u hj => ?_⟩⟩
  have hjl : j < ws.length * 4 := by
    have := (List.getElem?_eq_some_iff.1 hj).1
    rw [wrcs_len _ _ (wvals_len ws)] at this
    exact this
  obtain ⟨i, r, hi, hr, rfl⟩ : ∃ i r, i < ws.length ∧ r < 4 ∧ j = i * 4 + r := ⟨j / 4, j % 4, by omega, by omega, by omega⟩
  obtain ⟨c0, c1, c2, c3⟩ := hc i hi
  rw [wrcs_get ws (wvals ws) i hi (wvals_len ws) r hr, wvals_get ws i hi] at hj
  have e : r = 0 ∨ r = 1 ∨ r = 2 ∨ r = 3 := by omega
  rcases e with rfl | rfl | rfl | rfl
  · obtain rfl := Option.some.inj hj; exact c0
  · obtain rfl := Option.some.inj hj; exact c1
  · obtain rfl := Option.some.inj hj; exact c2
  · obtain rfl := Option.some.inj hj; exact c3
structure Raw6 where
  num : Nat
  ws : List S6.Wr
  at_ : Int
  mask : Int
  cut : Int
/-- A record by hand in memory. -/
def RawAt (w : World) (b o : Nat) (x : Raw6) : Prop := ∃ wv, w.cell? ⟨b, o, none⟩ = some (.int .u64 (x.num : Int)) ∧ w.cell? ⟨b, o + 1, none⟩ = some wv ∧ w.cell? ⟨b, o + 2, none⟩ = some (.int .i64 x.at_) ∧ w.cell? ⟨b, o + 3, none⟩ = some (.int .u8 x.mask) ∧ w.cell? ⟨b, o + 4, none⟩ = some (.int .i64 x.cut) ∧ RWs w wv x.ws ∧ x.num < 18446744073709551616 ∧ (Lit.int .i64 x.at_).wf = true ∧ (0 ≤ x.mask ∧ x.mask < 256) ∧ (Lit.int .i64 x.cut).wf = true ∧ ∀ y ∈ x.ws, S6.FitR y
theorem RawAt.ext {w w' : World} {b o : Nat} {x : Raw6} (h : RawAt w b o x) (hx : Ext w w') : RawAt w' b o x := by
  obtain ⟨wv, h0, h1, h2, h3, h4, h5, h6⟩ := h
  exact ⟨wv, hx.cell h0, hx.cell h1, hx.cell h2, hx.cell h3, hx.cell h4, h5.ext hx, h6⟩
def RawsIn (w : World) (v : Value) (l : List Raw6) : Prop := ∃ a cap, v = .slice a l.length cap ∧ l.length ≤ 9223372036854775807 ∧ (l = [] ∨ ∃ b off, a = some ⟨b, off, none⟩ ∧ ∀ r (h : r < l.length), RawAt w b (off + r * 5) l[r])
theorem RawsIn.at {w : World} {a : Option Addr} {n cap : Nat} {l : List Raw6} (h : RawsIn w (.slice a n cap) l) (r : Nat) (hr : r < l.length) : ∃ b off, a = some ⟨b, off, none⟩ ∧ RawAt w b (off + r * 5) l[r] := by
  obtain ⟨a', cap', hv, _, h4⟩ := h
  obtain ⟨rfl, _, rfl⟩ := Value.slice.inj hv
  rcases h4 with rfl | ⟨b, off, rfl, hc⟩
  · simp at hr
  · exact ⟨b, off, rfl, hc r hr⟩
theorem RawsIn.ext {w w' : World} {v : Value} {l : List Raw6} (h : RawsIn w v l) (hx : Ext w w') : RawsIn w' v l := by
  obtain ⟨a, cap, hv, hl, h4⟩ := h
  refine ⟨a, cap, hv, hl, ?_⟩
  rcases h4 with h4 | ⟨b, off, hb, hc⟩
  · exact .inl h4
  · exact .inr ⟨b, off, hb, fun r hr => (hc r hr).ext hx⟩
theorem RawsIn.shape {w : World} {v : Value} {l : List Raw6} (h : RawsIn w v l) : ∃ a cap, v = .slice a l.length cap ∧ l.length ≤ 9223372036854775807 := by
  obtain ⟨a, cap, hv, hl, _⟩ := h
  exact ⟨a, cap, hv, hl⟩
/-- No text, no slice of what was read is longer than the form's reach. -/
def Wt {H : Type} (t : TypeId) (d : DataW H) : Prop := ∀ n ∈ d.weights Try.prog t, n ≤ 140737488355328
theorem mem_weightsAll {H : Type} {e : TypeId} {d : DataW H} {n : Nat} : ∀ {l : List (DataW H)}, d ∈ l → n ∈ d.weights Try.prog e → n ∈ DataW.weightsAll Try.prog e l
  | [], h, _ => by cases h
  | x :: r, h, hn => by
    simp only [DataW.weightsAll, List.mem_append]
    rcases List.mem_cons.1 h with rfl | h
    · exact .inl hn
    · exact .inr (mem_weightsAll h hn)
section
variable {H : Type} {enc : TypeId × Value → H} {w : World} {base : Nat} {spare : Nat → Bool} {held : Bool}
theorem wt_struct {t : TypeId} {fs : Array Field} (hu : Try.prog.underlying t = some (.struct fs)) {xs : List (DataW H × List MemPlace)} {p : List MemPlace} {y : DataW H × List MemPlace} (h : y = (.agg (xs.map (·.1)), p)) (hB : Wt t y.1) (i : Nat) (f : Field) (hf : fs[i]? = some f) (hi : i < xs.length) : Wt f.type xs[i].1 := by
  subst h
  intro n hn
  refine hB n ?_
  simp only [DataW.weights, hu]
  refine DataW.weights_mem_each (j := i) (t := f.type) (d := xs[i].1) ?_ ?_ n hn
  · rw [List.getElem?_map, Array.getElem?_toList, hf]; rfl
  · rw [List.getElem?_map, List.getElem?_eq_getElem hi]; rfl
theorem wt_slice {t e : TypeId} (hu : Try.prog.underlying t = some (.slice e)) {xs rest : List (DataW H × List MemPlace)} {p : List MemPlace} {y : DataW H × List MemPlace} (h : y = (.slice (xs.map (·.1)) (rest.map (·.1)), p)) (hB : Wt t y.1) (i : Nat) (hi : i < xs.length) : Wt e xs[i].1 := by
  subst h
  intro n hn
  refine hB n ?_
  simp only [DataW.weights, hu]
  exact List.mem_cons_of_mem _ (List.mem_append_left _ (mem_weightsAll (List.mem_map.2 ⟨xs[i], List.getElem_mem hi, rfl⟩) hn))
theorem wt_str {t : TypeId} {s : ByteArray} {p : List MemPlace} {y : DataW H × List MemPlace} (h : y = (.lit (.string s.data.toList), p)) (hB : Wt t y.1) : s.data.toList.length ≤ 140737488355328 := by
  subst h
  exact hB _ (by simp [DataW.weights])
set_option maxRecDepth 100000 in
theorem open_wr {fuel : Nat} {a : Addr} {cs : List Value} {y : DataW H × List MemPlace} (hc : w.cells? base a 4 = some cs) (h : DataW.trod enc Try.prog w base spare held fuel 52 cs = some y) (hB : Wt 52 y.1) :
    ∃ b o, a = ⟨b, o, none⟩ ∧ ∃ x : S6.Wr, w.cell? ⟨b, o, none⟩ = some (strV x.key) ∧ w.cell? ⟨b, o + 1, none⟩ = some (strV x.val) ∧ w.cell? ⟨b, o + 2, none⟩ = some (.bool x.drop) ∧ w.cell? ⟨b, o + 3, none⟩ = some (.int .u64 (x.ver : Int)) ∧ S6.FitR x := by
  obtain ⟨_, hcl, hat⟩ := World.cells?_some hc
  obtain ⟨xs, n, _, hy, _, hxl, hf⟩ := DataW.trod_struct Try.underlying52 h
  match cs, hcl with
  | [c0, c1, c2, c3], _ =>
    have g0 := hat 0 (by omega)
    have g1 := hat 1 (by omega)
    have g2 := hat 2 (by omega)
    have g3 := hat 3 (by omega)
    obtain ⟨b, o, spot⟩ := a
    have hs : spot = none := by simpa [Addr.add] using World.cell?_spot g0
    subst hs
    simp only [Addr.add_lit, List.getElem?_cons_zero, List.getElem?_cons_succ] at g0 g1 g2 g3
    have ct0 : Try.prog.cellsOf 9 = 1 := by kernel_rfl
    have ct1 : Try.prog.cellsOf 4 = 1 := by kernel_rfl
    have ct2 : Try.prog.cellsOf 35 = 1 := by kernel_rfl
    have hl5 : xs.length = 4 := hxl
    have f0 : DataW.trod enc Try.prog w base spare held n 9 (([c0, c1, c2, c3].drop 0).take (Try.prog.cellsOf 9)) = xs[0]? := hf 0 _ rfl
    have f1 : DataW.trod enc Try.prog w base spare held n 9 (([c0, c1, c2, c3].drop 1).take (Try.prog.cellsOf 9)) = xs[1]? := hf 1 _ rfl
    have f2 : DataW.trod enc Try.prog w base spare held n 4 (([c0, c1, c2, c3].drop 2).take (Try.prog.cellsOf 4)) = xs[2]? := hf 2 _ rfl
    have f3 : DataW.trod enc Try.prog w base spare held n 35 (([c0, c1, c2, c3].drop 3).take (Try.prog.cellsOf 35)) = xs[3]? := hf 3 _ rfl
    rw [List.getElem?_eq_getElem (by omega)] at f0 f1 f2 f3
    simp only [ct0, ct1, ct2, List.drop_zero, List.drop_succ_cons, List.take_succ_cons, List.take_zero] at f0 f1 f2 f3
    obtain ⟨s0, e0, x0, _⟩ := DataW.trod_string Try.underlying9 f0
    obtain rfl : c0 = .string s0 := by simpa using e0
    obtain ⟨s1, e1, x1, _⟩ := DataW.trod_string Try.underlying9 f1
    obtain rfl : c1 = .string s1 := by simpa using e1
    obtain ⟨m2, e2, _⟩ := DataW.trod_bool Try.underlying4 f2
    obtain rfl : c2 = .bool m2 := by simpa using e2
    obtain ⟨m3, e3, _, w3⟩ := DataW.trod_int Try.underlying35 f3
    obtain rfl : c3 = .int .u64 m3 := by simpa using e3
    obtain ⟨n3, hn3⟩ : ∃ n : Nat, m3 = (n : Int) := ⟨m3.toNat, by have := wf_u64s w3; omega⟩
    subst hn3
    exact ⟨b, o, rfl, ⟨s0.data.toList, s1.data.toList, m2, n3⟩, by simpa [strV_of] using g0, by simpa [strV_of] using g1, by simpa using g2, by simpa using g3, wt_str x0 (wt_struct Try.underlying52 hy hB 0 _ rfl (by omega)), wt_str x1 (wt_struct Try.underlying52 hy hB 1 _ rfl (by omega))⟩
theorem open_wrs {fuel : Nat} {v : Value} {x : DataW H × List MemPlace} (h : DataW.trod enc Try.prog w base spare held fuel 41 [v] = some x) (hB : Wt 41 x.1) : ∃ l : List S6.Wr, RWs w v l ∧ ∀ y ∈ l, S6.FitR y := by
  rcases DataW.trod_slice Try.underlying41 h with ⟨hcs, _⟩ | ⟨a, len, cap, elems, rest, n, _, hcs, hx, _, hl, hm, hlen, hel, _⟩
  · obtain rfl : v = .slice none 0 0 := by simpa using hcs
    exact ⟨[], RWs.nil w, fun y hy => by cases hy⟩
  · have c5 : Try.prog.cellsOf 52 = 4 := by kernel_rfl
    obtain rfl : v = .slice (some a) len cap := by simpa using hcs
    have at_ : ∀ i, i < len → ∃ b o, a.add (i * 4) = ⟨b, o, none⟩ ∧ ∃ x : S6.Wr, w.cell? ⟨b, o, none⟩ = some (strV x.key) ∧ w.cell? ⟨b, o + 1, none⟩ = some (strV x.val) ∧ w.cell? ⟨b, o + 2, none⟩ = some (.bool x.drop) ∧ w.cell? ⟨b, o + 3, none⟩ = some (.int .u64 (x.ver : Int)) ∧ S6.FitR x := fun i hi => by
      have h1 := hel i hi
      rw [c5] at h1
      have hy : elems[i]? = some (elems[i]'(by omega)) := List.getElem?_eq_getElem (by omega)
      rw [hy, Option.bind_eq_some_iff] at h1
      obtain ⟨cs, h2, h3⟩ := h1
      exact open_wr h2 h3 (wt_slice Try.underlying41 hx hB i (by omega))
    by_cases h0 : len = 0
    · subst h0
      refine ⟨[], ⟨some a, cap, rfl, by simp [wrcs, wvals], by simp, hm, (fun h => by cases h), (fun u hu => by simp [wrcs, wvals] at hu), .inl rfl⟩, fun y hy => by cases hy⟩
    · obtain ⟨b, o, e0, _⟩ := at_ 0 (by omega)
      have e1 : a.add (0 * 4) = a := by simp [Addr.add]
      rw [e1] at e0
      subst e0
      have each : ∀ i, ∃ x : S6.Wr, i < len → w.cell? ⟨b, o + i * 4, none⟩ = some (strV x.key) ∧ w.cell? ⟨b, o + i * 4 + 1, none⟩ = some (strV x.val) ∧ w.cell? ⟨b, o + i * 4 + 2, none⟩ = some (.bool x.drop) ∧ w.cell? ⟨b, o + i * 4 + 3, none⟩ = some (.int .u64 (x.ver : Int)) ∧ S6.FitR x := fun i => by
        by_cases hi : i < len
        · obtain ⟨b2, o2, e, x, hx⟩ := at_ i hi
          rw [Addr.add_lit] at e
          obtain ⟨rfl, rfl, _⟩ := Addr.mk.inj e
          exact ⟨x, fun _ => hx⟩
        · exact ⟨⟨[], [], false, 0⟩, fun h => absurd h hi⟩
      obtain ⟨U, hU⟩ := Classical.axiomOfChoice each
      have hll : ((List.range len).map U).length = len := by simp
      refine ⟨(List.range len).map U, ?_, fun y hy => ?_⟩
      · have := RWs.mk (w := w) (b := b) (off := o) (cap := cap) (ws := (List.range len).map U) (by rw [hll]; exact hl) hm (fun i hi => by
          have hi' : i < len := by rw [hll] at hi; exact hi
          have h9 := hU i hi'
          simpa using ⟨h9.1, h9.2.1, h9.2.2.1, h9.2.2.2.1⟩)
        rw [hll] at this
        exact this
      · obtain ⟨i, hi, rfl⟩ := List.mem_map.1 hy
        exact (hU i (List.mem_range.1 hi)).2.2.2.2
set_option maxRecDepth 100000 in
theorem open_raw {fuel : Nat} {a : Addr} {cs : List Value} {y : DataW H × List MemPlace} (hc : w.cells? base a 5 = some cs) (h : DataW.trod enc Try.prog w base spare held fuel 78 cs = some y) (hB : Wt 78 y.1) :
    ∃ b o, a = ⟨b, o, none⟩ ∧ ∃ x, RawAt w b o x := by
  obtain ⟨_, hcl, hat⟩ := World.cells?_some hc
  obtain ⟨xs, n, _, hy, _, hxl, hf⟩ := DataW.trod_struct Try.underlying78 h
  match cs, hcl with
  | [c0, c1, c2, c3, c4], _ =>
    have g0 := hat 0 (by omega)
    have g1 := hat 1 (by omega)
    have g2 := hat 2 (by omega)
    have g3 := hat 3 (by omega)
    have g4 := hat 4 (by omega)
    obtain ⟨b, o, spot⟩ := a
    have hs : spot = none := by simpa [Addr.add] using World.cell?_spot g0
    subst hs
    simp only [Addr.add_lit, List.getElem?_cons_zero, List.getElem?_cons_succ] at g0 g1 g2 g3 g4
    have ct0 : Try.prog.cellsOf 35 = 1 := by kernel_rfl
    have ct1 : Try.prog.cellsOf 41 = 1 := by kernel_rfl
    have ct2 : Try.prog.cellsOf 3 = 1 := by kernel_rfl
    have ct3 : Try.prog.cellsOf 5 = 1 := by kernel_rfl
    have hl5 : xs.length = 5 := hxl
    have f0 : DataW.trod enc Try.prog w base spare held n 35 (([c0, c1, c2, c3, c4].drop 0).take (Try.prog.cellsOf 35)) = xs[0]? := hf 0 _ rfl
    have f1 : DataW.trod enc Try.prog w base spare held n 41 (([c0, c1, c2, c3, c4].drop 1).take (Try.prog.cellsOf 41)) = xs[1]? := hf 1 _ rfl
    have f2 : DataW.trod enc Try.prog w base spare held n 3 (([c0, c1, c2, c3, c4].drop 2).take (Try.prog.cellsOf 3)) = xs[2]? := hf 2 _ rfl
    have f3 : DataW.trod enc Try.prog w base spare held n 5 (([c0, c1, c2, c3, c4].drop 3).take (Try.prog.cellsOf 5)) = xs[3]? := hf 3 _ rfl
    have f4 : DataW.trod enc Try.prog w base spare held n 3 (([c0, c1, c2, c3, c4].drop 4).take (Try.prog.cellsOf 3)) = xs[4]? := hf 4 _ rfl
    rw [List.getElem?_eq_getElem (by omega)] at f0 f1 f2 f3 f4
    simp only [ct0, ct1, ct2, ct3, List.drop_zero, List.drop_succ_cons, List.take_succ_cons, List.take_zero] at f0 f1 f2 f3 f4
    obtain ⟨m0, e0, _, w0⟩ := DataW.trod_int Try.underlying35 f0
    obtain rfl : c0 = .int .u64 m0 := by simpa using e0
    obtain ⟨l1, hb1, hf1⟩ := open_wrs f1 (wt_struct Try.underlying78 hy hB 1 _ rfl (by omega))
    obtain ⟨m2, e2, _, w2⟩ := DataW.trod_int Try.underlying3 f2
    obtain rfl : c2 = .int .i64 m2 := by simpa using e2
    obtain ⟨m3, e3, _, w3⟩ := DataW.trod_int Try.underlying5 f3
    obtain rfl : c3 = .int .u8 m3 := by simpa using e3
    obtain ⟨m4, e4, _, w4⟩ := DataW.trod_int Try.underlying3 f4
    obtain rfl : c4 = .int .i64 m4 := by simpa using e4
    obtain ⟨n0, hn0⟩ : ∃ n : Nat, m0 = (n : Int) := ⟨m0.toNat, by have := wf_u64s w0; omega⟩
    have v0 : n0 < 18446744073709551616 := by have := wf_u64s w0; omega
    subst hn0
    exact ⟨b, o, rfl, ⟨n0, l1, m2, m3, m4⟩, c1, by simpa using g0, by simpa using g1, by simpa using g2, by simpa using g3, by simpa using g4, hb1, v0, w2, wf_u8 w3, w4, hf1⟩
theorem open_raws {fuel : Nat} {v : Value} {x : DataW H × List MemPlace} (h : DataW.trod enc Try.prog w base spare held fuel 71 [v] = some x) (hB : Wt 71 x.1) : ∃ l : List Raw6, RawsIn w v l := by
  rcases DataW.trod_slice Try.underlying71 h with ⟨hcs, _⟩ | ⟨a, len, cap, elems, rest, n, _, hcs, hx, _, hl, hm, hlen, hel, _⟩
  · exact ⟨[], none, 0, by simpa using hcs, by simp, .inl rfl⟩
  · have c5 : Try.prog.cellsOf 78 = 5 := by kernel_rfl
    obtain rfl : v = .slice (some a) len cap := by simpa using hcs
    have at_ : ∀ i, i < len → ∃ b o, a.add (i * 5) = ⟨b, o, none⟩ ∧ ∃ x, RawAt w b o x := fun i hi => by
      have h1 := hel i hi
      rw [c5] at h1
      have hy : elems[i]? = some (elems[i]'(by omega)) := List.getElem?_eq_getElem (by omega)
      rw [hy, Option.bind_eq_some_iff] at h1
      obtain ⟨cs, h2, h3⟩ := h1
      exact open_raw h2 h3 (wt_slice Try.underlying71 hx hB i (by omega))
    by_cases h0 : len = 0
    · subst h0; exact ⟨[], some a, cap, rfl, by simp, .inl rfl⟩
    · obtain ⟨b, o, e0, _⟩ := at_ 0 (by omega)
      have e1 : a.add (0 * 5) = a := by simp [Addr.add]
      rw [e1] at e0
      subst e0
      have each : ∀ i, ∃ x : Raw6, i < len → RawAt w b (o + i * 5) x := fun i => by
        by_cases hi : i < len
        · obtain ⟨b2, o2, e, x, hx⟩ := at_ i hi
          rw [Addr.add_lit] at e
          obtain ⟨rfl, rfl, _⟩ := Addr.mk.inj e
          exact ⟨x, fun _ => hx⟩
        · exact ⟨⟨0, [], 0, 0, 0⟩, fun h => absurd h hi⟩
      obtain ⟨U, hU⟩ := Classical.axiomOfChoice each
      refine ⟨(List.range len).map U, some ⟨b, o, none⟩, cap, by simp, by unfold maxLen at hm; simp; omega, ?_⟩
      right
      refine ⟨b, o, rfl, fun r hr => ?_⟩
      have hr' : r < len := by simpa using hr
      simpa using hU r hr'
end
end Go.Proofs.Ytnjfioikpajhlaa
