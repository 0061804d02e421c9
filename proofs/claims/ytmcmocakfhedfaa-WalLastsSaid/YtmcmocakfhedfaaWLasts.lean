/- The walk of WalLasts, joined. -/
import Derived.Test.YtmcmocakfhedfaaWLastsB
namespace Go.Proofs.Ytmcmocakfhedfaa
open Go.RowKit

set_option maxRecDepth 100000 in
set_option maxHeartbeats 1600000 in
theorem lasts_bad (n cut again : Int) (sv av kkv : Value) (l : List Act5) (cs : Array Value) (hav : av = .agg cs) (keep : List Bool) (w : World) (hs : ActsIn w sv l) (hk : Reads w kkv (keep.map Value.bool)) (h : n < 4 ∨ 60 < n ∨ 40 < l.length) :
    Calls Try.prog 7 #[.int .i64 n, sv, av, .int .i64 cut, kkv, .int .i64 again] w fun e w' => e = .returned (.bool true) ∧ Ext w w' := by
  subst hav
  obtain ⟨a, cap, rfl, hll⟩ := hs.shape
  obtain ⟨ka, kc, hkv⟩ := hk.shape
  rw [List.length_map] at hkv
  subst hkv
  have HS := Lib.hid hs
  clear hs hk
  have hbb := fun w hx => begunS_bad n (.slice a l.length cap) l w (HS.out.ext hx) h
  have HBB := Lib.hid hbb
  clear hbb
  have hxb := Ext.of_alloc w (.cells cs 70)
  go_enter Try.func7, Try.ntmps7
  go_wp2_with fail
  refine (awake5 _).mono ?_
  rintro e w1 ⟨rfl, hx1⟩
  have HX1 := Lib.hid (hxb.trans hx1)
  clear hx1 hxb
  go_wp2_with fail
  refine (HBB.out _ HX1.out).mono ?_
  rintro e w2 ⟨rfl, hx2⟩
  have HX2 := Lib.hid (HX1.out.trans hx2)
  clear hx2
  by_cases h3 : n < 4
  · clear h
    go_wp2
    go_ret
    exact ⟨rfl, HX2.out⟩
  · have h4 : decide (n < 4) = false := decide_eq_false h3
    by_cases h5 : 60 < n
    · clear h h3
      go_wp2
      go_ret
      exact ⟨rfl, HX2.out⟩
    · have h6 : decide (60 < n) = false := decide_eq_false h5
      have h7 : (40 : Int) < (l.length : Int) := by omega
      clear h h3 h5
      go_wp2
      go_ret
      exact ⟨rfl, HX2.out⟩
theorem walk_walLasts (n : Int) (sv : Value) (l : List Act5) (x : Act5) (dv kv0 : Value) (cut : Int) (kkv : Value) (keep : List Bool) (again : Int) (w : World) (_hn : (Lit.int .i64 n).wf = true) (hs : ActsIn w sv l) (hb : Bs w dv x.data) (hc : (Lit.int .i64 cut).wf = true) (hk : Reads w kkv (keep.map Value.bool)) (ha : (Lit.int .i64 again).wf = true) :
    Calls Try.prog 7 #[.int .i64 n, sv, .agg #[.int .i64 x.kind, .int .i64 x.i, .int .i64 x.n, .int .i64 x.size, dv, kv0, .int .u8 x.mask], .int .i64 cut, kkv, .int .i64 again] w fun e w' => e = .returned (.bool true) ∧ Ext w w' := by
  obtain ⟨c1, c2⟩ := wf_i64 hc
  obtain ⟨a1, a2⟩ := wf_i64 ha
  by_cases h : n < 4 ∨ 60 < n ∨ 40 < l.length
  · exact lasts_bad n cut again sv _ kkv l _ rfl keep w hs hk h
  · obtain ⟨kind, xi, xn, size, data, kp, mask⟩ := x
    by_cases hk1 : kind = 1
    · subst hk1
      by_cases h0 : 0 ≤ cut
      · exact lasts_rc n cut again mask xi xn size sv dv kv0 kkv l data keep w hs (by omega) (by omega) (by omega) hb hk h0 c2 a1 a2
      · exact lasts_rn n cut again mask xi xn size sv dv kv0 kkv l data keep w hs (by omega) (by omega) (by omega) hb hk (by omega) c2 a1 a2
    · by_cases h0 : 0 ≤ cut
      · exact lasts_ac n cut again mask kind xi xn size sv dv kv0 kkv l data keep w hs (by omega) (by omega) (by omega) hb hk hk1 h0 c2 a1 a2
      · exact lasts_an n cut again mask kind xi xn size sv dv kv0 kkv l data keep w hs (by omega) (by omega) (by omega) hb hk hk1 (by omega) c2 a1 a2
end Go.Proofs.Ytmcmocakfhedfaa
