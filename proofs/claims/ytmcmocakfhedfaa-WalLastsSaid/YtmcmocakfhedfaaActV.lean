/- A call of the log that came in by value, opened. -/
import Derived.Test.YtmcmocakfhedfaaActs5
namespace Go.Proofs.Ytmcmocakfhedfaa
open Go.RowKit Go.ChangeShapes Go.WideShapes Go.ChangeAt

section
variable {H : Type} {enc : TypeId × Value → H} {w : World} {base : Nat} {spare : Nat → Bool} {held : Bool}
set_option maxRecDepth 100000 in
theorem open_actv {fuel : Nat} {cs : Array Value} {y : DataW H × List MemPlace} (hcs : cs.size = Try.prog.cellsOf 70) (h : DataW.trod enc Try.prog w base spare held fuel 70 cs.toList = some y) :
    ∃ (x : Act5) (dv kv : Value), cs = #[.int .i64 x.kind, .int .i64 x.i, .int .i64 x.n, .int .i64 x.size, dv, kv, .int .u8 x.mask] ∧ Bs w dv x.data := by
  obtain ⟨xs, n, _, _, _, hxl, hf⟩ := DataW.trod_struct Try.underlying70 h
  have c7 : Try.prog.cellsOf 70 = 7 := by kernel_rfl
  have hcl : cs.toList.length = 7 := by rw [Array.length_toList, hcs, c7]
  have hce : cs = cs.toList.toArray := rfl
  rw [hce]
  match cs.toList, hcl, hf with
  | [c0, c1, c2, c3, c4, c5, c6], _, hf =>
    have ci : Try.prog.cellsOf 3 = 1 := by kernel_rfl
    have cu : Try.prog.cellsOf 5 = 1 := by kernel_rfl
    have cd : Try.prog.cellsOf 31 = 1 := by kernel_rfl
    have ck : Try.prog.cellsOf 68 = 1 := by kernel_rfl
    have hl5 : xs.length = 7 := hxl
    have f0 : DataW.trod enc Try.prog w base spare held n 3 (([c0, c1, c2, c3, c4, c5, c6].drop 0).take (Try.prog.cellsOf 3)) = xs[0]? := hf 0 _ rfl
    have f1 : DataW.trod enc Try.prog w base spare held n 3 (([c0, c1, c2, c3, c4, c5, c6].drop 1).take (Try.prog.cellsOf 3)) = xs[1]? := hf 1 _ rfl
    have f2 : DataW.trod enc Try.prog w base spare held n 3 (([c0, c1, c2, c3, c4, c5, c6].drop 2).take (Try.prog.cellsOf 3)) = xs[2]? := hf 2 _ rfl
    have f3 : DataW.trod enc Try.prog w base spare held n 3 (([c0, c1, c2, c3, c4, c5, c6].drop 3).take (Try.prog.cellsOf 3)) = xs[3]? := hf 3 _ rfl
    have f4 : DataW.trod enc Try.prog w base spare held n 31 (([c0, c1, c2, c3, c4, c5, c6].drop 4).take (Try.prog.cellsOf 31)) = xs[4]? := hf 4 _ rfl
    have f5 : DataW.trod enc Try.prog w base spare held n 68 (([c0, c1, c2, c3, c4, c5, c6].drop 5).take (Try.prog.cellsOf 68)) = xs[5]? := hf 5 _ rfl
    have f6 : DataW.trod enc Try.prog w base spare held n 5 (([c0, c1, c2, c3, c4, c5, c6].drop 6).take (Try.prog.cellsOf 5)) = xs[6]? := hf 6 _ rfl
    rw [List.getElem?_eq_getElem (by omega)] at f0 f1 f2 f3 f4 f5 f6
    simp only [ci, cu, cd, ck, List.drop_zero, List.drop_succ_cons, List.take_succ_cons, List.take_zero] at f0 f1 f2 f3 f4 f5 f6
    obtain ⟨m0, e0, _, w0⟩ := DataW.trod_int Try.underlying3 f0
    obtain ⟨m1, e1, _, w1⟩ := DataW.trod_int Try.underlying3 f1
    obtain ⟨m2, e2, _, w2⟩ := DataW.trod_int Try.underlying3 f2
    obtain ⟨m3, e3, _, w3⟩ := DataW.trod_int Try.underlying3 f3
    obtain ⟨m6, e6, _, w6⟩ := DataW.trod_int Try.underlying5 f6
    obtain rfl : c0 = .int .i64 m0 := by simpa using e0
    obtain rfl : c1 = .int .i64 m1 := by simpa using e1
    obtain rfl : c2 = .int .i64 m2 := by simpa using e2
    obtain rfl : c3 = .int .i64 m3 := by simpa using e3
    obtain rfl : c6 = .int .u8 m6 := by simpa using e6
    obtain ⟨l, hb⟩ := open_bytes f4
    obtain ⟨ks, hk⟩ := open_bools f5
    exact ⟨⟨m0, m1, m2, m3, l, ks, m6⟩, c4, c5, rfl, hb⟩
end
end Go.Proofs.Ytmcmocakfhedfaa
