/- The walk of jetwaylaw01.WordZigs: a number with a sign is told as the document says, and comes back. -/
import Derived.Test.YtnbadeaiocandaaAwake
import Derived.Test.YtnbadeaiocandaaLong
namespace Go.Proofs.Ytnbadeaiocandaa
open Go.RowKit

theorem W.zig_range (n : Int) (h1 : -9223372036854775808 ≤ n) (h2 : n ≤ 9223372036854775807) : 0 ≤ W.zig n ∧ W.zig n < 18446744073709551616 := by unfold W.zig; split <;> omega
theorem W.zag_range (m : Int) (h1 : 0 ≤ m) (h2 : m < 18446744073709551616) : -9223372036854775808 ≤ W.zag m ∧ W.zag m ≤ 9223372036854775807 := by unfold W.zag; split <;> omega

set_option maxRecDepth 100000 in
set_option maxHeartbeats 800000 in
theorem walk_wordZigs (n m : Int) (w : World) (h0 : (Lit.int .i64 n).wf = true) (h1 : (Lit.int .u64 m).wf = true) :
    Calls Try.prog 8 #[.int .i64 n, .int .u64 m] w fun e w' => e = .returned (.bool true) ∧ Ext w w' := by
  obtain ⟨a1, a2⟩ := wf_i64 h0
  obtain ⟨b1, b2⟩ := wf_u64 h1
  clear h0 h1
  have hz := W.zig_range n a1 a2
  have hg := W.zag_range m b1 b2
  have e1 := Lib.hid (W.zag_zig n)
  have e2 := Lib.hid (W.zig_zag m b1)
  go_enter Try.func8, Try.ntmps8
  go_wp2_with fail
  refine (awake w).mono ?_
  rintro e w1 ⟨rfl, hx1⟩
  have HX1 := Lib.hid hx1
  clear hx1
  go_wp2_with fail
  refine (zig_any n w1 a1 a2).mono ?_
  rintro e w2 ⟨rfl, rfl⟩
  go_wp2_with fail
  refine (refZig n w1 a1 a2).mono ?_
  rintro e w2 ⟨rfl, rfl⟩
  go_wp2_with fail
  refine (zig_any n w1 a1 a2).mono ?_
  rintro e w2 ⟨rfl, rfl⟩
  go_wp2_with fail
  refine (zag_any (W.zig n) w1 hz.1 hz.2).mono ?_
  rintro e w2 ⟨rfl, rfl⟩
  rw [e1.out]
  go_wp2_with fail
  refine (zag_any m w1 b1 b2).mono ?_
  rintro e w2 ⟨rfl, rfl⟩
  go_wp2_with fail
  refine (zig_any (W.zag m) w1 hg.1 hg.2).mono ?_
  rintro e w2 ⟨rfl, rfl⟩
  rw [e2.out]
  go_wp2
  go_ret
  exact ⟨rfl, HX1.out⟩
end Go.Proofs.Ytnbadeaiocandaa
