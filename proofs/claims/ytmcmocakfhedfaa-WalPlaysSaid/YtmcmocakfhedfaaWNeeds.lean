/- The walk of WalNeeds. -/
import Derived.Test.YtmcmocakfhedfaaWalU
namespace Go.Proofs.Ytmcmocakfhedfaa
open Go.RowKit

set_option maxRecDepth 100000 in
theorem refNeed_any (n : Int) (w : World) (h1 : -9223372036854775808 ≤ n) (h2 : n ≤ 9223372036854775807) :
    Calls Try.prog 12 #[.int .i64 n] w fun e w' => e = .returned (.int .i64 (W5.needI n)) ∧ w = w' := by
  by_cases h : n < 1
  · have e1 : W5.needI n = 1 := if_pos h
    rw [e1]
    clear e1
    go_enter Try.func12, Try.ntmps12
    go_wp2
    go_ret
    exact ⟨rfl, rfl⟩
  · have e1 : W5.needI n = (n - 1) / 491 + 1 := if_neg h
    have e2 : n.tdiv 491 = n / 491 := Int.tdiv_eq_ediv_of_nonneg (by omega)
    have e3 : n.tmod 491 = n % 491 := Int.tmod_eq_emod_of_nonneg (by omega)
    obtain ⟨k, hk⟩ : ∃ k, k = n / 491 := ⟨_, rfl⟩
    obtain ⟨r, hr⟩ : ∃ r, r = n % 491 := ⟨_, rfl⟩
    rw [← hk] at e2
    rw [← hr] at e3
    have hk2 : 0 ≤ k ∧ k ≤ 18784871765488400 := by omega
    have hk3 := hk2.2
    have h4 : ¬ n < 1 := h
    by_cases h3 : 0 < r
    · have e4 : Hid (W5.needI n = k + 1) := by unfold Hid; rw [e1]; omega
      clear e1 hk hr
      go_enter Try.func12, Try.ntmps12
      go_wp2
      go_ret
      rw [e4.out]
      exact ⟨rfl, rfl⟩
    · have e4 : Hid (W5.needI n = k) := by unfold Hid; rw [e1]; omega
      have h5 : decide (0 < r) = false := decide_eq_false h3
      clear e1 hk hr h3
      go_enter Try.func12, Try.ntmps12
      go_wp2
      go_ret
      rw [e4.out]
      exact ⟨rfl, rfl⟩
set_option maxRecDepth 100000 in
theorem refArea_any (n : Int) (w : World) (h1 : -9223372036854775808 ≤ n) (h2 : n ≤ 9223372036854775807) :
    Calls Try.prog 14 #[.int .i64 n] w fun e w' => e = .returned (.int .i64 (W5.areaI n)) ∧ w = w' := by
  by_cases h : n < 2
  · have e1 : W5.areaI n = 0 := if_pos h
    rw [e1]
    clear e1
    go_enter Try.func14, Try.ntmps14
    go_wp2
    go_ret
    exact ⟨rfl, rfl⟩
  · have e1 : W5.areaI n = n / 2 - 1 := by
      have : W5.areaI n = (n - 2) / 2 := if_neg h
      omega
    have e2 : n.tdiv 2 = n / 2 := Int.tdiv_eq_ediv_of_nonneg (by omega)
    obtain ⟨k, hk⟩ : ∃ k, k = n / 2 := ⟨_, rfl⟩
    rw [← hk] at e1 e2
    have hk2 : 1 ≤ k := by omega
    have hk3 : k ≤ 4611686018427387904 := by omega
    have h4 : ¬ n < 2 := h
    rw [e1]
    clear e1 hk
    go_enter Try.func14, Try.ntmps14
    go_wp2
    go_ret
    exact ⟨rfl, rfl⟩

set_option maxRecDepth 100000 in
set_option maxHeartbeats 3200000 in
theorem walk_walNeeds (n m : Int) (w : World) (hwn : (Lit.int .i64 n).wf = true) (hwm : (Lit.int .i64 m).wf = true) :
    Calls Try.prog 3 #[.int .i64 n, .int .i64 m] w fun e w' => e = .returned (.bool true) ∧ Ext w w' := by
  obtain ⟨n1, n2⟩ := wf_i64 hwn
  obtain ⟨m1, m2⟩ := wf_i64 hwm
  clear hwn hwm
  have HNE := Lib.hid (fun (k : Int) (w : World) h1 h2 => need_any k w h1 h2)
  have HNR := Lib.hid (fun (k : Int) (w : World) h1 h2 => refNeed_any k w h1 h2)
  have HAE := Lib.hid (fun (k : Int) (w : World) h1 h2 => area_any k w h1 h2)
  have HAR := Lib.hid (fun (k : Int) (w : World) h1 h2 => refArea_any k w h1 h2)
  go_enter Try.func3, Try.ntmps3
  go_wp2_with fail
  refine (awake5 w).mono ?_
  rintro e w1 ⟨rfl, hx1⟩
  have HX1 := Lib.hid hx1
  clear hx1
  go_wp2_with fail
  refine (HNE.out n w1 n1 n2).mono ?_
  rintro e w2 ⟨rfl, rfl⟩
  go_wp2_with fail
  refine (HNR.out n w1 n1 n2).mono ?_
  rintro e w2 ⟨rfl, rfl⟩
  generalize hB : W5.needI n = B at *
  go_wp2_with fail
  refine (HAE.out n w1 n1 n2).mono ?_
  rintro e w2 ⟨rfl, rfl⟩
  go_wp2_with fail
  refine (HAR.out n w1 n1 n2).mono ?_
  rintro e w2 ⟨rfl, rfl⟩
  generalize hZ : W5.areaI n = Z at *
  by_cases c1 : n < 0
  · clear hB hZ
    go_wp2
    go_ret
    exact ⟨rfl, HX1.out⟩
  · have d1 : decide (n < 0) = false := decide_eq_false c1
    by_cases c2 : m < 0
    · clear hB hZ c1
      go_wp2
      go_ret
      exact ⟨rfl, HX1.out⟩
    · have d2 : decide (m < 0) = false := decide_eq_false c2
      by_cases c3 : 1099511627776 < n
      · clear hB hZ c1 c2
        go_wp2
        go_ret
        exact ⟨rfl, HX1.out⟩
      · have d3 : decide (1099511627776 < n) = false := decide_eq_false c3
        by_cases c4 : 1099511627776 < m
        · clear hB hZ c1 c2 c3
          go_wp2
          go_ret
          exact ⟨rfl, HX1.out⟩
        · have d4 : decide (1099511627776 < m) = false := decide_eq_false c4
          have n3 : 0 ≤ n := by omega
          have n4 : n ≤ 1099511627776 := by omega
          have m3 : 0 ≤ m := by omega
          have m4 : m ≤ 1099511627776 := by omega
          clear c1 c2 c3 c4
          have hF1 : W5.needI (n + m) ≤ B + W5.needI m := by rw [← hB]; unfold W5.needI; split <;> split <;> split <;> omega
          have hF2 : B ≤ W5.needI (n + m) := by rw [← hB]; unfold W5.needI; split <;> split <;> omega
          have hF3 : n ≠ 0 → W5.needI (n + 491) = B + 1 := by intro h; rw [← hB]; unfold W5.needI; split <;> split <;> omega
          have hF4 : 2 * Z ≤ n := by rw [← hZ]; unfold W5.areaI; split <;> omega
          have hF5 : 0 ≤ Z := by rw [← hZ]; unfold W5.areaI; split <;> omega
          have hb1 : 1 ≤ B ∧ B ≤ 1099511627777 := by rw [← hB]; unfold W5.needI; split <;> omega
          have hc1 : 1 ≤ W5.needI m ∧ W5.needI m ≤ 1099511627777 := by unfold W5.needI; split <;> omega
          obtain ⟨hb1, hb2⟩ := hb1
          obtain ⟨hc1, hc2⟩ := hc1
          have HB := Lib.hid hB
          have HZ := Lib.hid hZ
          have HF3 := Lib.hid hF3
          clear hB hZ hF3
          go_wp2_with fail
          refine (HNE.out (n + m) w1 (by omega) (by omega)).mono ?_
          rintro e w2 ⟨rfl, rfl⟩
          generalize hAe : W5.needI (n + m) = A at *
          have HAe := Lib.hid hAe
          clear hAe
          go_wp2_with fail
          refine (HNE.out n w1 n1 n2).mono ?_
          rintro e w2 ⟨rfl, rfl⟩
          rw [HB.out]
          go_wp2_with fail
          refine (HNE.out m w1 m1 m2).mono ?_
          rintro e w2 ⟨rfl, rfl⟩
          generalize W5.needI m = C at *
          go_wp2_with fail
          refine (HNE.out n w1 n1 n2).mono ?_
          rintro e w2 ⟨rfl, rfl⟩
          rw [HB.out]
          go_wp2_with fail
          refine (HNE.out (n + m) w1 (by omega) (by omega)).mono ?_
          rintro e w2 ⟨rfl, rfl⟩
          rw [HAe.out]
          by_cases c5 : n = 0
          · subst c5
            go_wp2_with fail
            refine (HAE.out 0 w1 (by omega) (by omega)).mono ?_
            rintro e w2 ⟨rfl, rfl⟩
            rw [HZ.out]
            go_wp2
            go_ret
            exact ⟨rfl, HX1.out⟩
          · have hf3 := HF3.out c5
            have HF5 := Lib.hid hf3
            have d5 : (n == 0) = false := by rw [beq_eq_false_iff_ne]; exact c5
            clear c5 hf3
            go_wp2_with fail
            refine (HNE.out (n + 491) w1 (by omega) (by omega)).mono ?_
            rintro e w2 ⟨rfl, rfl⟩
            rw [HF5.out]
            go_wp2_with fail
            refine (HNE.out n w1 n1 n2).mono ?_
            rintro e w2 ⟨rfl, rfl⟩
            rw [HB.out]
            go_wp2_with fail
            refine (HAE.out n w1 n1 n2).mono ?_
            rintro e w2 ⟨rfl, rfl⟩
            rw [HZ.out]
            go_wp2
            go_ret
            exact ⟨rfl, HX1.out⟩
end Go.Proofs.Ytmcmocakfhedfaa
