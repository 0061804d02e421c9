/- A script of calls of the log that came in, opened. -/
import Derived.Test.YtmcmocakfhedfaaSameT
import Derived.Test.YtmcmocakfhedfaaOpen
import Derived.OpenShut
import Derived.ChangeSlices
namespace Go.Proofs.Ytmcmocakfhedfaa
open Go.RowKit Go.ChangeShapes Go.WideShapes Go.ChangeAt

structure Act5 where
  kind : Int
  i : Int
  n : Int
  size : Int
  data : List UInt8
  keep : List Bool
  mask : Int
/-- A call in memory. -/
def ActAt (w : World) (b o : Nat) (x : Act5) : Prop := ∃ dv kv, w.cell? ⟨b, o, none⟩ = some (.int .i64 x.kind) ∧ w.cell? ⟨b, o + 1, none⟩ = some (.int .i64 x.i) ∧ w.cell? ⟨b, o + 2, none⟩ = some (.int .i64 x.n) ∧ w.cell? ⟨b, o + 3, none⟩ = some (.int .i64 x.size) ∧
  w.cell? ⟨b, o + 4, none⟩ = some dv ∧ w.cell? ⟨b, o + 5, none⟩ = some kv ∧ w.cell? ⟨b, o + 6, none⟩ = some (.int .u8 x.mask) ∧ Bs w dv x.data ∧ Reads w kv (x.keep.map Value.bool) ∧ (Lit.int .i64 x.i).wf = true ∧ (Lit.int .i64 x.n).wf = true ∧ (Lit.int .i64 x.size).wf = true ∧ (Lit.int .u8 x.mask).wf = true
def ActsIn (w : World) (v : Value) (l : List Act5) : Prop := ∃ a cap, v = .slice a l.length cap ∧ l.length ≤ 9223372036854775807 ∧ (l = [] ∨ ∃ b off, a = some ⟨b, off, none⟩ ∧ ∀ r (h : r < l.length), ActAt w b (off + r * 7) l[r])
theorem ActAt.ext {w w' : World} {b o : Nat} {x : Act5} (h : ActAt w b o x) (hx : Ext w w') : ActAt w' b o x := by
  obtain ⟨dv, kv, h0, h1, h2, h3, h4, h5, h6, h7, h8, h9⟩ := h
  exact ⟨dv, kv, hx.cell h0, hx.cell h1, hx.cell h2, hx.cell h3, hx.cell h4, hx.cell h5, hx.cell h6, h7.ext hx, h8.ext hx, h9⟩
theorem ActsIn.at {w : World} {a : Option Addr} {n cap : Nat} {l : List Act5} (h : ActsIn w (.slice a n cap) l) (r : Nat) (hr : r < l.length) : ∃ b off, a = some ⟨b, off, none⟩ ∧ ActAt w b (off + r * 7) l[r] := by
  obtain ⟨a', cap', hv, _, h4⟩ := h
  obtain ⟨rfl, _, rfl⟩ := Value.slice.inj hv
  rcases h4 with rfl | ⟨b, off, rfl, hc⟩
  · simp at hr
  · exact ⟨b, off, rfl, hc r hr⟩
theorem ActsIn.ext {w w' : World} {v : Value} {l : List Act5} (h : ActsIn w v l) (hx : Ext w w') : ActsIn w' v l := by
  obtain ⟨a, cap, hv, hl, h4⟩ := h
  refine ⟨a, cap, hv, hl, ?_⟩
  rcases h4 with h4 | ⟨b, off, hb, hc⟩
  · exact .inl h4
  · exact .inr ⟨b, off, hb, fun r hr => (hc r hr).ext hx⟩
theorem ActsIn.shape {w : World} {v : Value} {l : List Act5} (h : ActsIn w v l) : ∃ a cap, v = .slice a l.length cap ∧ l.length ≤ 9223372036854775807 := by
  obtain ⟨a, cap, hv, hl, _⟩ := h
  exact ⟨a, cap, hv, hl⟩
/-- What reads lies in memory. -/
theorem Reads.block_lt {w : World} {v : Value} {cs : List Value} (h : Reads w v cs) : cs = [] ∨ ∀ k, v.ownBlock = some k → k < w.heap.size := by
  obtain ⟨a, cap, rfl, h1, h2, hn, h3, h4⟩ := h
  rcases h4 with h4 | ⟨b, off, rfl, hc⟩
  · exact .inl h4
  · cases cs with
    | nil => exact .inl rfl
    | cons u r =>
      right
      intro k hk
      obtain rfl : b = k := by simpa [Value.ownBlock] using hk
      exact World.block_lt_of_cell? w _ (hc 0 u rfl)

section
variable {H : Type} {enc : TypeId × Value → H} {w : World} {base : Nat} {spare : Nat → Bool} {held : Bool}
theorem open_bytes {fuel : Nat} {v : Value} {x : DataW H × List MemPlace} (h : DataW.trod enc Try.prog w base spare held fuel 31 [v] = some x) : ∃ l : List UInt8, Bs w v l := by
  rcases open_cells Try.underlying31 (by kernel_rfl) h with rfl | ⟨a, len, cap, n, rfl, hl, hm, hc⟩
  · exact ⟨[], Bs.nil w⟩
  · obtain ⟨l, _, hr, _⟩ := reads_of (w := w) byteVal (fun _ => rfl) 0 hl hm (fun _ => True) (fun i hi => by
      obtain ⟨u, y, h1, h2⟩ := hc i hi
      obtain ⟨m, hm, _, hw⟩ := DataW.trod_int Try.underlying5 h2
      obtain rfl : u = .int .u8 m := by simpa using hm
      have hw2 := wf_u8 hw
      refine ⟨UInt8.ofNat m.toNat, ?_, trivial⟩
      rw [h1]
      unfold byteVal
      congr 2
      have h3 : (UInt8.ofNat m.toNat).toNat = m.toNat := by simp; omega
      rw [h3]; omega)
    exact ⟨l, hr⟩
set_option maxRecDepth 100000 in
theorem open_act {fuel : Nat} {a : Addr} {cs : List Value} {y : DataW H × List MemPlace} (hc : w.cells? base a 7 = some cs) (h : DataW.trod enc Try.prog w base spare held fuel 70 cs = some y) :
    ∃ b o, a = ⟨b, o, none⟩ ∧ ∃ x, ActAt w b o x := by
  obtain ⟨_, hcl, hat⟩ := World.cells?_some hc
  obtain ⟨xs, n, _, _, _, hxl, hf⟩ := DataW.trod_struct Try.underlying70 h
  match cs, hcl with
  | [c0, c1, c2, c3, c4, c5, c6], _ =>
    have g0 := hat 0 (by omega)
    have g1 := hat 1 (by omega)
    have g2 := hat 2 (by omega)
    have g3 := hat 3 (by omega)
    have g4 := hat 4 (by omega)
    have g5 := hat 5 (by omega)
    have g6 := hat 6 (by omega)
    obtain ⟨b, o, spot⟩ := a
    have hs : spot = none := by simpa [Addr.add] using World.cell?_spot g0
    subst hs
    simp only [Addr.add_lit, List.getElem?_cons_zero, List.getElem?_cons_succ] at g0 g1 g2 g3 g4 g5 g6
    have ci : Try.prog.cellsOf 3 = 1 := by kernel_rfl
    have cu : Try.prog.cellsOf 5 = 1 := by kernel_rfl
    have cd : Try.prog.cellsOf 31 = 1 := by kernel_rfl
    have ck : Try.prog.cellsOf 68 = 1 := by kernel_rfl
    have hl5 : xs.length = 7 := hxl
    have f0 : DataW.trod enc Try.prog w base spare held n 3 (([c0, c1, c2, c3, c4, c5, c6].drop 0).take (Try.prog.cellsOf 3)) = xs[0]? := hf 0 _ rfl
    have f1 : DataW.trod enc Try.prog w base spare held n 3 (([c0, c1, c2, c3, c4, c5, c6].drop 1).take (Try.prog.cellsOf 3)) = xs[1]? := hf 1 _ rfl
    have f2 : DataW.trod enc Try.prog w base spare held n 3 (([c0, c1, c2, c3, c4, c5, c6].drop 2).take (Try.prog.cellsOf 3)) = xs[2]? := hf 2 _ rfl
    have f3 : DataW.trod enc Try.prog w base spare held n 3 (([c0, c1, c2, c3, c4, c5, c6].drop 3).take (Try.prog.cellsOf 3)) = xs[3]? := hf 3 _ rfl
    have f4 : DataW.trod enc Try.prog w base spare held n 31 (([c0, c1, c2, c3, c4, c5, c6].drop 4).take (Try.prog.cellsOf 31)) = xs[4]? := hf 4 _ rfl
    have f5 : DataW.trod enc Try.prog w base spare held n 68 (([c0, c1, c2, c3, c4, c5, c6].drop 5).take (Try.prog.cellsOf 68)) = xs[5]? := hf 5 _ rfl
    have f6 : DataW.trod enc Try.prog w base spare held n 5 (([c0, c1, c2, c3, c4, c5, c6].drop 6).take (Try.prog.cellsOf 5)) = xs[6]? := hf 6 _ rfl
    rw [List.getElem?_eq_getElem (by omega)] at f0 f1 f2 f3 f4 f5 f6
    simp only [ci, cu, cd, ck, List.drop_zero, List.drop_succ_cons, List.take_succ_cons, List.take_zero] at f0 f1 f2 f3 f4 f5 f6
    obtain ⟨m0, e0, _, w0⟩ := DataW.trod_int Try.underlying3 f0
    obtain ⟨m1, e1, _, w1⟩ := DataW.trod_int Try.underlying3 f1
    obtain ⟨m2, e2, _, w2⟩ := DataW.trod_int Try.underlying3 f2
    obtain ⟨m3, e3, _, w3⟩ := DataW.trod_int Try.underlying3 f3
    obtain ⟨m6, e6, _, w6⟩ := DataW.trod_int Try.underlying5 f6
    obtain rfl : c0 = .int .i64 m0 := by simpa using e0
    obtain rfl : c1 = .int .i64 m1 := by simpa using e1
    obtain rfl : c2 = .int .i64 m2 := by simpa using e2
    obtain rfl : c3 = .int .i64 m3 := by simpa using e3
    obtain rfl : c6 = .int .u8 m6 := by simpa using e6
    obtain ⟨l, hb⟩ := open_bytes f4
    obtain ⟨ks, hk⟩ := open_bools f5
    exact ⟨b, o, rfl, ⟨m0, m1, m2, m3, l, ks, m6⟩, c4, c5, by simpa using g0, by simpa using g1, by simpa using g2, by simpa using g3, by simpa using g4, by simpa using g5, by simpa using g6, hb, hk, w1, w2, w3, w6⟩
theorem open_acts {fuel : Nat} {v : Value} {x : DataW H × List MemPlace} (h : DataW.trod enc Try.prog w base spare held fuel 67 [v] = some x) : ∃ l : List Act5, ActsIn w v l := by
  rcases DataW.trod_slice Try.underlying67 h with ⟨hcs, _⟩ | ⟨a, len, cap, elems, rest, n, _, hcs, _, _, hl, hm, hlen, hel, _⟩
  · exact ⟨[], none, 0, by simpa using hcs, by simp, .inl rfl⟩
  · have c5 : Try.prog.cellsOf 70 = 7 := by kernel_rfl
    obtain rfl : v = .slice (some a) len cap := by simpa using hcs
    have at_ : ∀ i, i < len → ∃ b o, a.add (i * 7) = ⟨b, o, none⟩ ∧ ∃ x, ActAt w b o x := fun i hi => by
      have h1 := hel i hi
      rw [c5] at h1
      have hy : elems[i]? = some (elems[i]'(by omega)) := List.getElem?_eq_getElem (by omega)
      rw [hy, Option.bind_eq_some_iff] at h1
      obtain ⟨cs, h2, h3⟩ := h1
      exact open_act h2 h3
    by_cases h0 : len = 0
    · subst h0; exact ⟨[], some a, cap, rfl, by simp, .inl rfl⟩
    · obtain ⟨b, o, e0, _⟩ := at_ 0 (by omega)
      have e1 : a.add (0 * 7) = a := by simp [Addr.add]
      rw [e1] at e0
      subst e0
      have each : ∀ i, ∃ x : Act5, i < len → ActAt w b (o + i * 7) x := fun i => by
        by_cases hi : i < len
        · obtain ⟨b2, o2, e, x, hx⟩ := at_ i hi
          rw [Addr.add_lit] at e
          obtain ⟨rfl, rfl, _⟩ := Addr.mk.inj e
          exact ⟨x, fun _ => hx⟩
        · exact ⟨⟨0, 0, 0, 0, [], [], 0⟩, fun h => absurd h hi⟩
      obtain ⟨U, hU⟩ := Classical.axiomOfChoice each
      refine ⟨(List.range len).map U, some ⟨b, o, none⟩, cap, by simp, by unfold maxLen at hm; simp; omega, ?_⟩
      right
      refine ⟨b, o, rfl, fun r hr => ?_⟩
      have hr' : r < len := by simpa using hr
      simpa using hU r hr'
end
end Go.Proofs.Ytmcmocakfhedfaa
