/- A list of sectors laid by hand that came in, opened. -/
import Derived.Test.YtmcmocakfhedfaaActs5
namespace Go.Proofs.Ytmcmocakfhedfaa
open Go.RowKit Go.ChangeShapes Go.WideShapes Go.ChangeAt

structure Sec5 where
  i : Int
  at_ : Int
  pc : Bool
  g : Nat
  rc : Nat
  k : Nat
  ps : Nat
  ln : Nat
  data : List UInt8
  mask : Int
/-- A sector in memory. -/
def SecAt (w : World) (b o : Nat) (x : Sec5) : Prop := ∃ dv, w.cell? ⟨b, o, none⟩ = some (.int .i64 x.i) ∧ w.cell? ⟨b, o + 1, none⟩ = some (.int .i64 x.at_) ∧ w.cell? ⟨b, o + 2, none⟩ = some (.bool x.pc) ∧ w.cell? ⟨b, o + 3, none⟩ = some (.int .u32 (x.g : Int)) ∧
  w.cell? ⟨b, o + 4, none⟩ = some (.int .u32 (x.rc : Int)) ∧ w.cell? ⟨b, o + 5, none⟩ = some (.int .u32 (x.k : Int)) ∧ w.cell? ⟨b, o + 6, none⟩ = some (.int .u32 (x.ps : Int)) ∧ w.cell? ⟨b, o + 7, none⟩ = some (.int .u32 (x.ln : Int)) ∧
  w.cell? ⟨b, o + 8, none⟩ = some dv ∧ w.cell? ⟨b, o + 9, none⟩ = some (.int .u8 x.mask) ∧ Bs w dv x.data ∧ (x.g < 4294967296 ∧ x.rc < 4294967296 ∧ x.k < 4294967296 ∧ x.ps < 4294967296 ∧ x.ln < 4294967296) ∧ 0 ≤ x.mask ∧ x.mask < 256
def SecsIn (w : World) (v : Value) (l : List Sec5) : Prop := ∃ a cap, v = .slice a l.length cap ∧ l.length ≤ 9223372036854775807 ∧ (l = [] ∨ ∃ b off, a = some ⟨b, off, none⟩ ∧ ∀ r (h : r < l.length), SecAt w b (off + r * 10) l[r])
theorem SecAt.ext {w w' : World} {b o : Nat} {x : Sec5} (h : SecAt w b o x) (hx : Ext w w') : SecAt w' b o x := by
  obtain ⟨dv, h0, h1, h2, h3, h4, h5, h6, h7, h8, h9, h10, h11⟩ := h
  exact ⟨dv, hx.cell h0, hx.cell h1, hx.cell h2, hx.cell h3, hx.cell h4, hx.cell h5, hx.cell h6, hx.cell h7, hx.cell h8, hx.cell h9, h10.ext hx, h11⟩
theorem SecsIn.at {w : World} {a : Option Addr} {n cap : Nat} {l : List Sec5} (h : SecsIn w (.slice a n cap) l) (r : Nat) (hr : r < l.length) : ∃ b off, a = some ⟨b, off, none⟩ ∧ SecAt w b (off + r * 10) l[r] := by
  obtain ⟨a', cap', hv, _, h4⟩ := h
  obtain ⟨rfl, _, rfl⟩ := Value.slice.inj hv
  rcases h4 with rfl | ⟨b, off, rfl, hc⟩
  · simp at hr
  · exact ⟨b, off, rfl, hc r hr⟩
theorem SecsIn.ext {w w' : World} {v : Value} {l : List Sec5} (h : SecsIn w v l) (hx : Ext w w') : SecsIn w' v l := by
  obtain ⟨a, cap, hv, hl, h4⟩ := h
  refine ⟨a, cap, hv, hl, ?_⟩
  rcases h4 with h4 | ⟨b, off, hb, hc⟩
  · exact .inl h4
  · exact .inr ⟨b, off, hb, fun r hr => (hc r hr).ext hx⟩
theorem SecsIn.shape {w : World} {v : Value} {l : List Sec5} (h : SecsIn w v l) : ∃ a cap, v = .slice a l.length cap ∧ l.length ≤ 9223372036854775807 := by
  obtain ⟨a, cap, hv, hl, _⟩ := h
  exact ⟨a, cap, hv, hl⟩
theorem wf_u32s {n : Int} (h : (Lit.int .u32 n).wf = true) : 0 ≤ n ∧ n < 4294967296 := by
  simp [Lit.wf, IntKind.min, IntKind.max, IntKind.bits, IntKind.signed] at h; omega

section
variable {H : Type} {enc : TypeId × Value → H} {w : World} {base : Nat} {spare : Nat → Bool} {held : Bool}
set_option maxRecDepth 100000 in
theorem open_sec {fuel : Nat} {a : Addr} {cs : List Value} {y : DataW H × List MemPlace} (hc : w.cells? base a 10 = some cs) (h : DataW.trod enc Try.prog w base spare held fuel 58 cs = some y) :
    ∃ b o, a = ⟨b, o, none⟩ ∧ ∃ x, SecAt w b o x := by
  obtain ⟨_, hcl, hat⟩ := World.cells?_some hc
  obtain ⟨xs, n, _, _, _, hxl, hf⟩ := DataW.trod_struct Try.underlying58 h
  match cs, hcl with
  | [c0, c1, c2, c3, c4, c5, c6, c7, c8, c9], _ =>
    have g0 := hat 0 (by omega)
    have g1 := hat 1 (by omega)
    have g2 := hat 2 (by omega)
    have g3 := hat 3 (by omega)
    have g4 := hat 4 (by omega)
    have g5 := hat 5 (by omega)
    have g6 := hat 6 (by omega)
    have g7 := hat 7 (by omega)
    have g8 := hat 8 (by omega)
    have g9 := hat 9 (by omega)
    obtain ⟨b, o, spot⟩ := a
    have hs : spot = none := by simpa [Addr.add] using World.cell?_spot g0
    subst hs
    simp only [Addr.add_lit, List.getElem?_cons_zero, List.getElem?_cons_succ] at g0 g1 g2 g3 g4 g5 g6 g7 g8 g9
    have ci : Try.prog.cellsOf 3 = 1 := by kernel_rfl
    have cb : Try.prog.cellsOf 4 = 1 := by kernel_rfl
    have cw : Try.prog.cellsOf 42 = 1 := by kernel_rfl
    have cd : Try.prog.cellsOf 31 = 1 := by kernel_rfl
    have cu : Try.prog.cellsOf 5 = 1 := by kernel_rfl
    have hl5 : xs.length = 10 := hxl
    have f0 : DataW.trod enc Try.prog w base spare held n 3 (([c0, c1, c2, c3, c4, c5, c6, c7, c8, c9].drop 0).take (Try.prog.cellsOf 3)) = xs[0]? := hf 0 _ rfl
    have f1 : DataW.trod enc Try.prog w base spare held n 3 (([c0, c1, c2, c3, c4, c5, c6, c7, c8, c9].drop 1).take (Try.prog.cellsOf 3)) = xs[1]? := hf 1 _ rfl
    have f2 : DataW.trod enc Try.prog w base spare held n 4 (([c0, c1, c2, c3, c4, c5, c6, c7, c8, c9].drop 2).take (Try.prog.cellsOf 4)) = xs[2]? := hf 2 _ rfl
    have f3 : DataW.trod enc Try.prog w base spare held n 42 (([c0, c1, c2, c3, c4, c5, c6, c7, c8, c9].drop 3).take (Try.prog.cellsOf 42)) = xs[3]? := hf 3 _ rfl
    have f4 : DataW.trod enc Try.prog w base spare held n 42 (([c0, c1, c2, c3, c4, c5, c6, c7, c8, c9].drop 4).take (Try.prog.cellsOf 42)) = xs[4]? := hf 4 _ rfl
    have f5 : DataW.trod enc Try.prog w base spare held n 42 (([c0, c1, c2, c3, c4, c5, c6, c7, c8, c9].drop 5).take (Try.prog.cellsOf 42)) = xs[5]? := hf 5 _ rfl
    have f6 : DataW.trod enc Try.prog w base spare held n 42 (([c0, c1, c2, c3, c4, c5, c6, c7, c8, c9].drop 6).take (Try.prog.cellsOf 42)) = xs[6]? := hf 6 _ rfl
    have f7 : DataW.trod enc Try.prog w base spare held n 42 (([c0, c1, c2, c3, c4, c5, c6, c7, c8, c9].drop 7).take (Try.prog.cellsOf 42)) = xs[7]? := hf 7 _ rfl
    have f8 : DataW.trod enc Try.prog w base spare held n 31 (([c0, c1, c2, c3, c4, c5, c6, c7, c8, c9].drop 8).take (Try.prog.cellsOf 31)) = xs[8]? := hf 8 _ rfl
    have f9 : DataW.trod enc Try.prog w base spare held n 5 (([c0, c1, c2, c3, c4, c5, c6, c7, c8, c9].drop 9).take (Try.prog.cellsOf 5)) = xs[9]? := hf 9 _ rfl
    rw [List.getElem?_eq_getElem (by omega)] at f0 f1 f2 f3 f4 f5 f6 f7 f8 f9
    simp only [ci, cb, cw, cd, cu, List.drop_zero, List.drop_succ_cons, List.take_succ_cons, List.take_zero] at f0 f1 f2 f3 f4 f5 f6 f7 f8 f9
    obtain ⟨m0, e0, _, w0⟩ := DataW.trod_int Try.underlying3 f0
    obtain rfl : c0 = .int .i64 m0 := by simpa using e0
    obtain ⟨m1, e1, _, w1⟩ := DataW.trod_int Try.underlying3 f1
    obtain rfl : c1 = .int .i64 m1 := by simpa using e1
    obtain ⟨m2, e2, _⟩ := DataW.trod_bool Try.underlying4 f2
    obtain rfl : c2 = .bool m2 := by simpa using e2
    obtain ⟨m3, e3, _, w3⟩ := DataW.trod_int Try.underlying42 f3
    obtain rfl : c3 = .int .u32 m3 := by simpa using e3
    obtain ⟨n3, hn3⟩ : ∃ n : Nat, m3 = (n : Int) := ⟨m3.toNat, by have := wf_u32s w3; omega⟩
    have v3 : n3 < 4294967296 := by have := wf_u32s w3; omega
    subst hn3
    obtain ⟨m4, e4, _, w4⟩ := DataW.trod_int Try.underlying42 f4
    obtain rfl : c4 = .int .u32 m4 := by simpa using e4
    obtain ⟨n4, hn4⟩ : ∃ n : Nat, m4 = (n : Int) := ⟨m4.toNat, by have := wf_u32s w4; omega⟩
    have v4 : n4 < 4294967296 := by have := wf_u32s w4; omega
    subst hn4
    obtain ⟨m5, e5, _, w5⟩ := DataW.trod_int Try.underlying42 f5
    obtain rfl : c5 = .int .u32 m5 := by simpa using e5
    obtain ⟨n5, hn5⟩ : ∃ n : Nat, m5 = (n : Int) := ⟨m5.toNat, by have := wf_u32s w5; omega⟩
    have v5 : n5 < 4294967296 := by have := wf_u32s w5; omega
    subst hn5
    obtain ⟨m6, e6, _, w6⟩ := DataW.trod_int Try.underlying42 f6
    obtain rfl : c6 = .int .u32 m6 := by simpa using e6
    obtain ⟨n6, hn6⟩ : ∃ n : Nat, m6 = (n : Int) := ⟨m6.toNat, by have := wf_u32s w6; omega⟩
    have v6 : n6 < 4294967296 := by have := wf_u32s w6; omega
    subst hn6
    obtain ⟨m7, e7, _, w7⟩ := DataW.trod_int Try.underlying42 f7
    obtain rfl : c7 = .int .u32 m7 := by simpa using e7
    obtain ⟨n7, hn7⟩ : ∃ n : Nat, m7 = (n : Int) := ⟨m7.toNat, by have := wf_u32s w7; omega⟩
    have v7 : n7 < 4294967296 := by have := wf_u32s w7; omega
    subst hn7
    obtain ⟨m9, e9, _, w9⟩ := DataW.trod_int Try.underlying5 f9
    obtain rfl : c9 = .int .u8 m9 := by simpa using e9
    obtain ⟨l, hb⟩ := open_bytes f8
    have v9 := wf_u8 w9
    exact ⟨b, o, rfl, ⟨m0, m1, m2, n3, n4, n5, n6, n7, l, m9⟩, c8, by simpa using g0, by simpa using g1, by simpa using g2, by simpa using g3, by simpa using g4, by simpa using g5, by simpa using g6, by simpa using g7, by simpa using g8, by simpa using g9, hb, ⟨v3, v4, v5, v6, v7⟩, v9.1, v9.2⟩
theorem open_secs {fuel : Nat} {v : Value} {x : DataW H × List MemPlace} (h : DataW.trod enc Try.prog w base spare held fuel 50 [v] = some x) : ∃ l : List Sec5, SecsIn w v l := by
  rcases DataW.trod_slice Try.underlying50 h with ⟨hcs, _⟩ | ⟨a, len, cap, elems, rest, n, _, hcs, _, _, hl, hm, hlen, hel, _⟩
  · exact ⟨[], none, 0, by simpa using hcs, by simp, .inl rfl⟩
  · have c5 : Try.prog.cellsOf 58 = 10 := by kernel_rfl
    obtain rfl : v = .slice (some a) len cap := by simpa using hcs
    have at_ : ∀ i, i < len → ∃ b o, a.add (i * 10) = ⟨b, o, none⟩ ∧ ∃ x, SecAt w b o x := fun i hi => by
      have h1 := hel i hi
      rw [c5] at h1
      have hy : elems[i]? = some (elems[i]'(by omega)) := List.getElem?_eq_getElem (by omega)
      rw [hy, Option.bind_eq_some_iff] at h1
      obtain ⟨cs, h2, h3⟩ := h1
      exact open_sec h2 h3
    by_cases h0 : len = 0
    · subst h0; exact ⟨[], some a, cap, rfl, by simp, .inl rfl⟩
    · obtain ⟨b, o, e0, _⟩ := at_ 0 (by omega)
      have e1 : a.add (0 * 10) = a := by simp [Addr.add]
      rw [e1] at e0
      subst e0
      have each : ∀ i, ∃ x : Sec5, i < len → SecAt w b (o + i * 10) x := fun i => by
        by_cases hi : i < len
        · obtain ⟨b2, o2, e, x, hx⟩ := at_ i hi
          rw [Addr.add_lit] at e
          obtain ⟨rfl, rfl, _⟩ := Addr.mk.inj e
          exact ⟨x, fun _ => hx⟩
        · exact ⟨⟨0, 0, false, 0, 0, 0, 0, 0, [], 0⟩, fun h => absurd h hi⟩
      obtain ⟨U, hU⟩ := Classical.axiomOfChoice each
      refine ⟨(List.range len).map U, some ⟨b, o, none⟩, cap, by simp, by unfold maxLen at hm; simp; omega, ?_⟩
      right
      refine ⟨b, o, rfl, fun r hr => ?_⟩
      have hr' : r < len := by simpa using hr
      simpa using hU r hr'
end
end Go.Proofs.Ytmcmocakfhedfaa
