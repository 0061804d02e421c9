import Derived.Test.YtnjfioikpajhlaaGreatWalU
set_option maxRecDepth 100000
set_option maxHeartbeats 64000000
/- The walk of WalNeeds. -/
namespace Go.Proofs.YtnjfioikpajhlaaGreat
open Go.RowKit
theorem refNeed_any (n : Int) (w : World) (h1 : -9223372036854775808 <= n) (h2 : n <= 9223372036854775807) :
 Calls Tryz.prog 40 #[.int .i64 n] w fun e w' => e = .returned (.int .i64 (W5.needI n)) /\ w = w' := by
 by_cases h : n < 1
 ·have e1 : W5.needI n = 1 := if_pos h
  rw [e1]
  clear e1
  go_enter Tryz.func40, Tryz.ntmps40
  go_wp2
  go_ret
  exact ⟨rfl, rfl⟩
 ·have e1 : W5.needI n = (n - 1) / 491 + 1 := if_neg h
  have e2 : n.tdiv 491 = n / 491 := Int.tdiv_eq_ediv_of_nonneg (by omega)
  have e3 : n.tmod 491 = n % 491 := Int.tmod_eq_emod_of_nonneg (by omega)
  obtain ⟨k, hk⟩ : ∃ k, k = n / 491 := ⟨_, rfl⟩
  obtain ⟨r, hr⟩ : ∃ r, r = n % 491 := ⟨_, rfl⟩
  rw [<- hk] at e2
  rw [<- hr] at e3
  have hk2 : 0 <= k /\ k <= 18784871765488400 := by omega
  have hk3 := hk2.2
  have h4 : ¬ n < 1 := h
  by_cases h3 : 0 < r
  ·have e4 : Hid (W5.needI n = k + 1) := by unfold Hid; rw [e1]; omega
   clear e1 hk hr
   go_enter Tryz.func40, Tryz.ntmps40
   go_wp2
   go_ret
   rw [e4.out]
   exact ⟨rfl, rfl⟩
  ·have e4 : Hid (W5.needI n = k) := by unfold Hid; rw [e1]; omega
   have h5 : decide (0 < r) = false := decide_eq_false h3
   clear e1 hk hr h3
   go_enter Tryz.func40, Tryz.ntmps40
   go_wp2
   go_ret
   rw [e4.out]
   exact ⟨rfl, rfl⟩
theorem refArea_any (n : Int) (w : World) (h1 : -9223372036854775808 <= n) (h2 : n <= 9223372036854775807) :
 Calls Tryz.prog 37 #[.int .i64 n] w fun e w' => e = .returned (.int .i64 (W5.areaI n)) /\ w = w' := by
 by_cases h : n < 2
 ·have e1 : W5.areaI n = 0 := if_pos h
  rw [e1]
  clear e1
  go_enter Tryz.func37, Tryz.ntmps37
  go_wp2
  go_ret
  exact ⟨rfl, rfl⟩
 ·have e1 : W5.areaI n = n / 2 - 1 := by
   have : W5.areaI n = (n - 2) / 2 := if_neg h
   omega
  have e2 : n.tdiv 2 = n / 2 := Int.tdiv_eq_ediv_of_nonneg (by omega)
  obtain ⟨k, hk⟩ : ∃ k, k = n / 2 := ⟨_, rfl⟩
  rw [<- hk] at e1 e2
  have hk2 : 1 <= k := by omega
  have hk3 : k <= 4611686018427387904 := by omega
  have h4 : ¬ n < 2 := h
  rw [e1]
  clear e1 hk
  go_enter Tryz.func37, Tryz.ntmps37
  go_wp2
  go_ret
  exact ⟨rfl, rfl⟩
end Go.Proofs.YtnjfioikpajhlaaGreat
