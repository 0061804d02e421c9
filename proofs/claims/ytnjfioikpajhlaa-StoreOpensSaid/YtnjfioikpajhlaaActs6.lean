import Derived.Test.YtnjfioikpajhlaaMSt5
import Derived.Test.YtnjfioikpajhlaaMWord
import Derived.OpenShut
import Derived.ChangeSlices
/- The law's script of calls of the store, opened. -/
namespace Go.Proofs.Ytnjfioikpajhlaa
open Go.RowKit Go.ChangeShapes Go.WideShapes Go.ChangeAt

theorem wf_u64s {n : Int} (h : (Lit.int .u64 n).wf = true) : 0 ≤ n ∧ n < 18446744073709551616 := by
  simp [Lit.wf, IntKind.min, IntKind.max, IntKind.bits, IntKind.signed] at h; omega
theorem strV_of (s : ByteArray) : Value.string s = strV s.data.toList := by unfold strV; simp
section
variable {H : Type} {enc : TypeId × Value → H} {w : World} {base : Nat} {spare : Nat → Bool} {held : Bool}
theorem open_bytes {fuel : Nat} {v : Value} {x : DataW H × List MemPlace} (h : DataW.trod enc Try.prog w base spare held fuel 59 [v] = some x) : ∃ l : List UInt8, Bs w v l := by
  rcases open_cells Try.underlying59 (by kernel_rfl) h with rfl | ⟨a, len, cap, n, rfl, hl, hm, hc⟩
  · exact ⟨[], Bs.nil w⟩
  · obtain ⟨l, _, hr, _⟩ := reads_of (w := w) byteVal (fun _ => rfl) 0 hl hm (fun _ => True) (fun i hi => by
      obtain ⟨u, y, h1, h2⟩ := hc i hi
      obtain ⟨m, hm, _, hw⟩ := DataW.trod_int Try.underlying5 h2
      obtain rfl : u = .int .u8 m := by simpa using hm
      have hw2 := wf_u8 hw
      refine ⟨UInt8.ofNat m.toNat, ?_, trivial⟩
      rw [h1]
      unfold byteVal
      congr 2
      have h3 : (UInt8.ofNat m.toNat).toNat = m.toNat := by simp; omega
      rw [h3]; omega)
    exact ⟨l, hr⟩
set_option maxRecDepth 100000 in
theorem open_put {fuel : Nat} {a : Addr} {cs : List Value} {y : DataW H × List MemPlace} (hc : w.cells? base a 5 = some cs) (h : DataW.trod enc Try.prog w base spare held fuel 96 cs = some y) :
    ∃ b o, a = ⟨b, o, none⟩ ∧ ∃ x, PutAt w b o x := by
  obtain ⟨_, hcl, hat⟩ := World.cells?_some hc
  obtain ⟨xs, n, _, _, _, hxl, hf⟩ := DataW.trod_struct Try.underlying96 h
  match cs, hcl with
  | [c0, c1, c2, c3, c4], _ =>
    have g0 := hat 0 (by omega)
    have g1 := hat 1 (by omega)
    have g2 := hat 2 (by omega)
    have g3 := hat 3 (by omega)
    have g4 := hat 4 (by omega)
    obtain ⟨b, o, spot⟩ := a
    have hs : spot = none := by simpa [Addr.add] using World.cell?_spot g0
    subst hs
    simp only [Addr.add_lit, List.getElem?_cons_zero, List.getElem?_cons_succ] at g0 g1 g2 g3 g4
    have ct0 : Try.prog.cellsOf 59 = 1 := by kernel_rfl
    have ct1 : Try.prog.cellsOf 4 = 1 := by kernel_rfl
    have ct2 : Try.prog.cellsOf 3 = 1 := by kernel_rfl
    have ct3 : Try.prog.cellsOf 9 = 1 := by kernel_rfl
    have ct4 : Try.prog.cellsOf 35 = 1 := by kernel_rfl
    have hl5 : xs.length = 5 := hxl
    have f0 : DataW.trod enc Try.prog w base spare held n 9 (([c0, c1, c2, c3, c4].drop 0).take (Try.prog.cellsOf 9)) = xs[0]? := hf 0 _ rfl
    have f1 : DataW.trod enc Try.prog w base spare held n 59 (([c0, c1, c2, c3, c4].drop 1).take (Try.prog.cellsOf 59)) = xs[1]? := hf 1 _ rfl
    have f2 : DataW.trod enc Try.prog w base spare held n 3 (([c0, c1, c2, c3, c4].drop 2).take (Try.prog.cellsOf 3)) = xs[2]? := hf 2 _ rfl
    have f3 : DataW.trod enc Try.prog w base spare held n 4 (([c0, c1, c2, c3, c4].drop 3).take (Try.prog.cellsOf 4)) = xs[3]? := hf 3 _ rfl
    have f4 : DataW.trod enc Try.prog w base spare held n 35 (([c0, c1, c2, c3, c4].drop 4).take (Try.prog.cellsOf 35)) = xs[4]? := hf 4 _ rfl
    rw [List.getElem?_eq_getElem (by omega)] at f0 f1 f2 f3 f4
    simp only [ct0, ct1, ct2, ct3, ct4, List.drop_zero, List.drop_succ_cons, List.take_succ_cons, List.take_zero] at f0 f1 f2 f3 f4
    obtain ⟨s0, e0, _, _⟩ := DataW.trod_string Try.underlying9 f0
    obtain rfl : c0 = .string s0 := by simpa using e0
    obtain ⟨l1, hb1⟩ := open_bytes f1
    obtain ⟨m2, e2, _, w2⟩ := DataW.trod_int Try.underlying3 f2
    obtain rfl : c2 = .int .i64 m2 := by simpa using e2
    obtain ⟨m3, e3, _⟩ := DataW.trod_bool Try.underlying4 f3
    obtain rfl : c3 = .bool m3 := by simpa using e3
    obtain ⟨m4, e4, _, w4⟩ := DataW.trod_int Try.underlying35 f4
    obtain rfl : c4 = .int .u64 m4 := by simpa using e4
    obtain ⟨n4, hn4⟩ : ∃ n : Nat, m4 = (n : Int) := ⟨m4.toNat, by have := wf_u64s w4; omega⟩
    have v4 : n4 < 18446744073709551616 := by have := wf_u64s w4; omega
    subst hn4
    exact ⟨b, o, rfl, ⟨s0.data.toList, l1, m2, m3, n4⟩, c1, by simpa [strV_of] using g0, by simpa using g1, by simpa using g2, by simpa using g3, by simpa using g4, hb1, v4⟩
theorem open_puts {fuel : Nat} {v : Value} {x : DataW H × List MemPlace} (h : DataW.trod enc Try.prog w base spare held fuel 23 [v] = some x) : ∃ l : List S6.Pt, PutsIn w v l := by
  rcases DataW.trod_slice Try.underlying23 h with ⟨hcs, _⟩ | ⟨a, len, cap, elems, rest, n, _, hcs, _, _, hl, hm, hlen, hel, _⟩
  · exact ⟨[], none, 0, by simpa using hcs, by simp, .inl rfl⟩
  · have c5 : Try.prog.cellsOf 96 = 5 := by kernel_rfl
    obtain rfl : v = .slice (some a) len cap := by simpa using hcs
    have at_ : ∀ i, i < len → ∃ b o, a.add (i * 5) = ⟨b, o, none⟩ ∧ ∃ x, PutAt w b o x := fun i hi => by
      have h1 := hel i hi
      rw [c5] at h1
      have hy : elems[i]? = some (elems[i]'(by omega)) := List.getElem?_eq_getElem (by omega)
      rw [hy, Option.bind_eq_some_iff] at h1
      obtain ⟨cs, h2, h3⟩ := h1
      exact open_put h2 h3
    by_cases h0 : len = 0
    · subst h0; exact ⟨[], some a, cap, rfl, by simp, .inl rfl⟩
    · obtain ⟨b, o, e0, _⟩ := at_ 0 (by omega)
      have e1 : a.add (0 * 5) = a := by simp [Addr.add]
      rw [e1] at e0
      subst e0
      have each : ∀ i, ∃ x : S6.Pt, i < len → PutAt w b (o + i * 5) x := fun i => by
        by_cases hi : i < len
        · obtain ⟨b2, o2, e, x, hx⟩ := at_ i hi
          rw [Addr.add_lit] at e
          obtain ⟨rfl, rfl, _⟩ := Addr.mk.inj e
          exact ⟨x, fun _ => hx⟩
        · exact ⟨⟨[], [], 0, false, 0⟩, fun h => absurd h hi⟩
      obtain ⟨U, hU⟩ := Classical.axiomOfChoice each
      refine ⟨(List.range len).map U, some ⟨b, o, none⟩, cap, by simp, by unfold maxLen at hm; simp; omega, ?_⟩
      right
      refine ⟨b, o, rfl, fun r hr => ?_⟩
      have hr' : r < len := by simpa using hr
      simpa using hU r hr'
set_option maxRecDepth 100000 in
theorem open_act6 {fuel : Nat} {a : Addr} {cs : List Value} {y : DataW H × List MemPlace} (hc : w.cells? base a 4 = some cs) (h : DataW.trod enc Try.prog w base spare held fuel 89 cs = some y) :
    ∃ b o, a = ⟨b, o, none⟩ ∧ ∃ x, Act6At w b o x := by
  obtain ⟨_, hcl, hat⟩ := World.cells?_some hc
  obtain ⟨xs, n, _, _, _, hxl, hf⟩ := DataW.trod_struct Try.underlying89 h
  match cs, hcl with
  | [c0, c1, c2, c3], _ =>
    have g0 := hat 0 (by omega)
    have g1 := hat 1 (by omega)
    have g2 := hat 2 (by omega)
    have g3 := hat 3 (by omega)
    obtain ⟨b, o, spot⟩ := a
    have hs : spot = none := by simpa [Addr.add] using World.cell?_spot g0
    subst hs
    simp only [Addr.add_lit, List.getElem?_cons_zero, List.getElem?_cons_succ] at g0 g1 g2 g3
    have ct0 : Try.prog.cellsOf 87 = 1 := by kernel_rfl
    have ct1 : Try.prog.cellsOf 23 = 1 := by kernel_rfl
    have ct2 : Try.prog.cellsOf 3 = 1 := by kernel_rfl
    have hl5 : xs.length = 4 := hxl
    have f0 : DataW.trod enc Try.prog w base spare held n 3 (([c0, c1, c2, c3].drop 0).take (Try.prog.cellsOf 3)) = xs[0]? := hf 0 _ rfl
    have f1 : DataW.trod enc Try.prog w base spare held n 3 (([c0, c1, c2, c3].drop 1).take (Try.prog.cellsOf 3)) = xs[1]? := hf 1 _ rfl
    have f2 : DataW.trod enc Try.prog w base spare held n 23 (([c0, c1, c2, c3].drop 2).take (Try.prog.cellsOf 23)) = xs[2]? := hf 2 _ rfl
    have f3 : DataW.trod enc Try.prog w base spare held n 87 (([c0, c1, c2, c3].drop 3).take (Try.prog.cellsOf 87)) = xs[3]? := hf 3 _ rfl
    rw [List.getElem?_eq_getElem (by omega)] at f0 f1 f2 f3
    simp only [ct0, ct1, ct2, List.drop_zero, List.drop_succ_cons, List.take_succ_cons, List.take_zero] at f0 f1 f2 f3
    obtain ⟨m0, e0, _, w0⟩ := DataW.trod_int Try.underlying3 f0
    obtain rfl : c0 = .int .i64 m0 := by simpa using e0
    obtain ⟨m1, e1, _, w1⟩ := DataW.trod_int Try.underlying3 f1
    obtain rfl : c1 = .int .i64 m1 := by simpa using e1
    obtain ⟨l2, hb2⟩ := open_puts f2
    obtain ⟨l3, hb3⟩ := open_bools f3
    exact ⟨b, o, rfl, ⟨m0, m1, l2, l3⟩, c2, c3, by simpa using g0, by simpa using g1, by simpa using g2, by simpa using g3, hb2, hb3, w0, w1⟩
theorem open_acts6 {fuel : Nat} {v : Value} {x : DataW H × List MemPlace} (h : DataW.trod enc Try.prog w base spare held fuel 22 [v] = some x) : ∃ l : List Act6, Acts6In w v l := by
  rcases DataW.trod_slice Try.underlying22 h with ⟨hcs, _⟩ | ⟨a, len, cap, elems, rest, n, _, hcs, _, _, hl, hm, hlen, hel, _⟩
  · exact ⟨[], none, 0, by simpa using hcs, by simp, .inl rfl⟩
  · have c5 : Try.prog.cellsOf 89 = 4 := by kernel_rfl
    obtain rfl : v = .slice (some a) len cap := by simpa using hcs
    have at_ : ∀ i, i < len → ∃ b o, a.add (i * 4) = ⟨b, o, none⟩ ∧ ∃ x, Act6At w b o x := fun i hi => by
      have h1 := hel i hi
      rw [c5] at h1
      have hy : elems[i]? = some (elems[i]'(by omega)) := List.getElem?_eq_getElem (by omega)
      rw [hy, Option.bind_eq_some_iff] at h1
      obtain ⟨cs, h2, h3⟩ := h1
      exact open_act6 h2 h3
    by_cases h0 : len = 0
    · subst h0; exact ⟨[], some a, cap, rfl, by simp, .inl rfl⟩
    · obtain ⟨b, o, e0, _⟩ := at_ 0 (by omega)
      have e1 : a.add (0 * 4) = a := by simp [Addr.add]
      rw [e1] at e0
      subst e0
      have each : ∀ i, ∃ x : Act6, i < len → Act6At w b (o + i * 4) x := fun i => by
        by_cases hi : i < len
        · obtain ⟨b2, o2, e, x, hx⟩ := at_ i hi
          rw [Addr.add_lit] at e
          obtain ⟨rfl, rfl, _⟩ := Addr.mk.inj e
          exact ⟨x, fun _ => hx⟩
        · exact ⟨⟨0, 0, [], []⟩, fun h => absurd h hi⟩
      obtain ⟨U, hU⟩ := Classical.axiomOfChoice each
      refine ⟨(List.range len).map U, some ⟨b, o, none⟩, cap, by simp, by unfold maxLen at hm; simp; omega, ?_⟩
      right
      refine ⟨b, o, rfl, fun r hr => ?_⟩
      have hr' : r < len := by simpa using hr
      simpa using hU r hr'
end
end Go.Proofs.Ytnjfioikpajhlaa
