/- The walk of jetwaylaw01.WordBack: what was laid is read as it was, whatever stands behind it; what was read is laid with just these bytes. -/
import Derived.Test.YtnbadeaiocandaaAwake
import Derived.Test.YtnbadeaiocandaaLong
import Derived.Test.YtnbadeaiocandaaPlainB
import Derived.Test.YtnbadeaiocandaaWVars
import Derived.Test.YtnbadeaiocandaaWUnlike
import Derived.Test.YtnbadeaiocandaaWTurned
namespace Go.Proofs.Ytnbadeaiocandaa
open Go.RowKit

set_option maxRecDepth 100000 in
set_option maxHeartbeats 3200000 in
theorem wordBack_core (n : Nat) (v1 : Value) (l : List UInt8) (w : World) (h0 : Bs w v1 l) (hl : l.length ≤ 20000) (hn : n < 18446744073709551616) :
    Calls Try.prog 5 #[.int .u64 (n : Int), v1] w fun e w' => e = .returned (.bool true) ∧ Ext w w' := by
  have hb0 := Lib.hid h0
  rcases h0 with ⟨a, cap, hv, hlc, hcm, _⟩
  rw [List.length_map] at hv hlc
  subst hv
  unfold maxLen at hcm
  go_enter Try.func5, Try.ntmps5
  go_wp2_with fail
  refine (awake w).mono ?_
  rintro e w1 ⟨rfl, hx1⟩
  have HX1 := Lib.hid hx1
  clear hx1
  go_wp2_with fail
  refine (long_any _ l w1 (hb0.out.ext HX1.out)).mono ?_
  rintro e w2 ⟨rfl, rfl⟩
  have hd : decide (20000 < l.length) = false := by simp; omega
  rw [hd]
  clear hd
  go_wp2_with fail
  refine (var_any (.slice none 0 0) [] n w1 hn (Bs.nil _) (by simp)).mono ?_
  rintro e w2 ⟨v2, rfl, hown2, hx2⟩
  rw [List.nil_append] at hown2
  have hv10 := W.vb_len10 n hn
  obtain ⟨g2, cap2, rfl, _, _, _, _, _⟩ := own_open hown2 hv10.2
  have HX2 := Lib.hid (HX1.out.trans hx2)
  have hB2 := Lib.hid (Bs.of_own hown2)
  clear hown2 hx2
  have hown0 := Lib.hid (own_empty w2 w2.heap.size 5 (Nat.le_refl _))
  have hb1 := Lib.hid (hB2.out.ext (Ext.of_alloc w2 (.cells #[] 5)))
  have hb3 := Lib.hid (hb0.out.ext HX2.out)
  go_wp2_with (first
    | (at_builtin; refine wpl_append_b _ rfl (.tmp 17) (.tmp 18) rfl w2.heap.size _ [] (by rfl) hown0.out _ _ (by rfl) hb1.out (W.vb n) rfl (by omega) (by simp) ?_; intro v3 w3 hown3 hgrow3; have hx3 := (Ext.of_alloc w2 (.cells #[] 5)).grown hgrow3 (by intro k hk; simp [Value.ownBlock] at hk; omega); have hb4 := Lib.hid (hb3.out.ext hx3); have hsz3 := hx3.size)
    | (at_builtin; refine wpl_append_b _ rfl (.tmp 19) (.tmp 20) rfl w2.heap.size _ (W.vb n) (by rfl) hown3 _ _ (by rfl) hb4.out (W.vb n ++ l) rfl (by simp; omega) hsz3 ?_; intro v4 w4 hown4 hgrow4))
  have hx4 : Ext w2 w4 := hx3.grown hgrow4 (fun k hk => (hown3.lt k hk).1)
  have HX4 := Lib.hid (HX2.out.trans hx4)
  have hB4 := Lib.hid (Bs.of_own hown4)
  clear hx3 hx4 hown3 hgrow3 hown4 hgrow4 hown0 hb1 hb3 hb4 hsz3
  refine (readVar_any _ _ w4 hB4.out (by simp; omega)).mono ?_
  rintro e w5 ⟨rfl, rfl⟩
  rw [W.rv_back n l hn]
  go_wp2_with fail
  have hb5 := Lib.hid (hb0.out.ext HX4.out)
  refine (readVar_any _ l w4 hb5.out (by omega)).mono ?_
  rintro e w5 ⟨rfl, rfl⟩
  by_cases he : (W.rv l 0 0).2.2 = 0
  · obtain ⟨k, s, hks⟩ : ∃ k s, W.rv l 0 0 = (k, s, 0) := ⟨(W.rv l 0 0).1, (W.rv l 0 0).2.1, Prod.ext rfl (Prod.ext rfl he)⟩
    obtain ⟨hk, hs1, hsl, hvb⟩ := W.rv_same l k s hks
    rw [hks]
    clear hks he
    have HVB := Lib.hid hvb
    clear hvb
    have hs1' : (1 : Int) ≤ (s : Int) := by omega
    have hsl' : (s : Int) ≤ (l.length : Int) := by omega
    have hsc' : (s : Int) ≤ (cap : Int) := by omega
    have hsc2 : s ≤ cap := by omega
    have hs0 : (0 : Int) ≤ (s : Int) := by omega
    have hct := (hb5.out.take s hsl).str
    unfold Str at hct
    have hx44 := Ext.of_drew w4
    go_wp2_with fail
    refine wp_region_held_drew (S := fun w' => Ext w4 w') (by kernel_rfl) hx44 (fun hHeld => ?_)
    (refine wpAnyH_take (i := 0) (oi := ⟨some 55, _, _, _, _, _⟩) (v := ?_) rfl (by kernel_rfl) (by kernel_rfl) (by kernel_rfl) (fun _ _ _ h => h) (Or.inl ⟨by rfl, ?_⟩) (by assumption) ?_; rotate_left; (focus (intro w hSw; (try dsimp only at hSw); go_simp; first | done | with_reducible rfl)); try simp only [Act.put, List.setIfInBounds_toArray, List.set_cons_zero, List.set_cons_succ])
    (refine wpAnyH_take (i := 1) (oi := ⟨some 56, _, _, _, _, _⟩) (v := ?_) rfl (by kernel_rfl) (by kernel_rfl) (by kernel_rfl) (fun _ _ _ h => h) (Or.inl ⟨by rfl, ?_⟩) (by assumption) ?_; rotate_left; (focus (intro w hSw; (try dsimp only at hSw); go_simp; first | done | with_reducible rfl)); try simp only [Act.put, List.setIfInBounds_toArray, List.set_cons_zero, List.set_cons_succ])
    (refine wpAnyH_take (i := 2) (oi := ⟨some 57, _, _, _, _, _⟩) (v := ?_) rfl (by kernel_rfl) (by kernel_rfl) (by kernel_rfl) (fun _ _ _ h => h) (Or.inl ⟨by rfl, ?_⟩) (by assumption) ?_; rotate_left; (focus (intro w hSw; (try dsimp only at hSw); go_simp; first | done | with_reducible rfl)); try simp only [Act.put, List.setIfInBounds_toArray, List.set_cons_zero, List.set_cons_succ])
    (refine wpAnyH_take (i := 3) (oi := ⟨some 58, _, _, _, _, _⟩) (v := ?_) rfl (by kernel_rfl) (by kernel_rfl) (by kernel_rfl) (fun _ _ _ h => h) (Or.inl ⟨by rfl, ?_⟩) (by assumption) ?_; rotate_left; (focus (intro w hSw; (try dsimp only at hSw); go_simp; first | done | with_reducible rfl)); try simp only [Act.put, List.setIfInBounds_toArray, List.set_cons_zero, List.set_cons_succ])
    (refine wpAnyH_take (i := 4) (oi := ⟨some 59, _, _, _, _, _⟩) (v := ?_) rfl (by kernel_rfl) (by kernel_rfl) (by kernel_rfl) (fun _ _ _ h => h) (Or.inl ⟨by rfl, ?_⟩) (by assumption) ?_; rotate_left; (focus (intro w hSw; (try dsimp only at hSw); go_simp; first | done | with_reducible rfl)); try simp only [Act.put, List.setIfInBounds_toArray, List.set_cons_zero, List.set_cons_succ])
    (refine wpAnyH_take (i := 5) (oi := ⟨some 60, _, _, _, _, _⟩) (v := ?_) rfl (by kernel_rfl) (by kernel_rfl) (by kernel_rfl) (fun _ _ _ h => h) (Or.inl ⟨by rfl, ?_⟩) (by assumption) ?_; rotate_left; (focus (intro w hSw; (try dsimp only at hSw); go_simp; first | done | with_reducible rfl)); try simp only [Act.put, List.setIfInBounds_toArray, List.set_cons_zero, List.set_cons_succ])
    (refine wpAnyH_take (i := 6) (oi := ⟨some 61, _, _, _, _, _⟩) (v := ?_) rfl (by kernel_rfl) (by kernel_rfl) (by kernel_rfl) (fun _ _ _ h => h) (Or.inl ⟨by rfl, ?_⟩) (by assumption) ?_; rotate_left; (focus (intro w hSw; (try dsimp only at hSw); go_simp; first | done | with_reducible rfl)); try simp only [Act.put, List.setIfInBounds_toArray, List.set_cons_zero, List.set_cons_succ])
    (refine wpAnyH_take (i := 7) (oi := ⟨some 62, _, _, _, _, _⟩) (v := ?_) rfl (by kernel_rfl) (by kernel_rfl) (by kernel_rfl) (fun _ _ _ h => h) (Or.inl ⟨by rfl, ?_⟩) (by assumption) ?_; rotate_left; (focus (intro w hSw; (try dsimp only at hSw); go_simp; first | done | with_reducible rfl)); try simp only [Act.put, List.setIfInBounds_toArray, List.set_cons_zero, List.set_cons_succ])
    (refine wpAnyH_take (i := 8) (oi := ⟨some 63, _, _, _, _, _⟩) (v := ?_) rfl (by kernel_rfl) (by kernel_rfl) (by kernel_rfl) (fun _ _ _ h => h) (Or.inl ⟨by rfl, ?_⟩) (by assumption) ?_; rotate_left; (focus (intro w hSw; (try dsimp only at hSw); go_simp; first | done | with_reducible rfl)); try simp only [Act.put, List.setIfInBounds_toArray, List.set_cons_zero, List.set_cons_succ])
    (refine wpAnyH_take (i := 9) (oi := ⟨some 64, _, _, _, _, _⟩) (v := ?_) rfl (by kernel_rfl) (by kernel_rfl) (by kernel_rfl) (fun _ _ _ h => h) (Or.inl ⟨by rfl, ?_⟩) (by assumption) ?_; rotate_left; (focus (intro w hSw; (try dsimp only at hSw); go_simp; first | done | with_reducible rfl)); try simp only [Act.put, List.setIfInBounds_toArray, List.set_cons_zero, List.set_cons_succ])
    (refine wpAnyH_take (i := 12) (oi := ⟨some 67, _, _, _, _, _⟩) (v := ?_) rfl (by kernel_rfl) (by kernel_rfl) (by kernel_rfl) (fun _ _ _ h => h) (Or.inl ⟨by rfl, ?_⟩) (by assumption) ?_; rotate_left; (focus (intro w hSw; (try dsimp only at hSw); go_simp; first | done | with_reducible rfl)); try simp only [Act.put, List.setIfInBounds_toArray, List.set_cons_zero, List.set_cons_succ])
    (refine wpAnyH_take (i := 13) (oi := ⟨some 68, _, _, _, _, _⟩) (v := ?_) rfl (by kernel_rfl) (by kernel_rfl) (by kernel_rfl) (fun _ _ _ h => h) (Or.inl ⟨by rfl, ?_⟩) (by assumption) ?_; rotate_left; (focus (intro w hSw; (try dsimp only at hSw); go_simp; first | done | with_reducible rfl)); try simp only [Act.put, List.setIfInBounds_toArray, List.set_cons_zero, List.set_cons_succ])
    (refine wpAnyH_take (i := 14) (oi := ⟨some 69, _, _, _, _, _⟩) (v := ?_) rfl (by kernel_rfl) (by kernel_rfl) (by kernel_rfl) (fun _ _ _ h => h) (Or.inl ⟨by rfl, ?_⟩) (by assumption) ?_; rotate_left; (focus (intro w hSw; (try dsimp only at hSw); go_simp; first | done | with_reducible rfl)); try simp only [Act.put, List.setIfInBounds_toArray, List.set_cons_zero, List.set_cons_succ])
    (refine wpAnyH_take (i := 15) (oi := ⟨some 70, _, _, _, _, _⟩) (v := ?_) rfl (by kernel_rfl) (by kernel_rfl) (by kernel_rfl) (fun _ _ _ h => h) (Or.inl ⟨by rfl, ?_⟩) (by assumption) ?_; rotate_left; (focus (intro w hSw; (try dsimp only at hSw); go_simp; first | done | with_reducible rfl)); try simp only [Act.put, List.setIfInBounds_toArray, List.set_cons_zero, List.set_cons_succ])
    refine wpAnyH_ready (rs := [10]) (by kernel_rfl) (by simp) ?_
    refine AllReadyH.cons (o := ⟨some 65, _, _, _, _, _⟩) rfl (fun K hK => ?_) AllReadyH.nil
    rw [if_pos (by rfl)]
    go_simp
    refine (var_any (.slice none 0 0) [] k _ hk (Bs.nil _) (by simp)).mono ?_
    rintro e w6 ⟨v6, rfl, hown6, hx6⟩
    rw [List.nil_append] at hown6
    have hst6 := (Bs.of_own hown6).str
    rw [HVB.out] at hst6
    unfold Str at hst6
    have HX6 := Lib.hid (hHeld.trans hx6)
    clear hown6 hx6 hHeld
    go_wp2_with fail
    refine hK.out _ _ HX6.out (fun _ => ?_)
    clear hK K
    try simp only [Act.put, List.setIfInBounds_toArray, List.set_cons_zero, List.set_cons_succ]
    refine wpAnyH_imp (S' := fun w' => Ext w6 w') (fun w' h => HX6.out.trans h) _ _ _ _ ?_
    have hHeld := Ext.refl w6
    (refine wpAnyH_take (i := 11) (oi := ⟨some 66, _, _, _, _, _⟩) (v := ?_) rfl (by kernel_rfl) (by kernel_rfl) (by kernel_rfl) (fun _ _ _ h => h) (Or.inl ⟨by rfl, ?_⟩) (by assumption) ?_; rotate_left; (focus (intro w hSw; (try dsimp only at hSw); go_simp; first | done | with_reducible rfl)); try simp only [Act.put, List.setIfInBounds_toArray, List.set_cons_zero, List.set_cons_succ])
    (refine wpAnyH_take (i := 16) (oi := ⟨some 71, _, _, _, _, _⟩) (v := ?_) rfl (by kernel_rfl) (by kernel_rfl) (by kernel_rfl) (fun _ _ _ h => h) (Or.inl ⟨by rfl, ?_⟩) (by assumption) ?_; rotate_left; (focus (intro w hSw; (try dsimp only at hSw); go_simp; first | done | with_reducible rfl)); try simp only [Act.put, List.setIfInBounds_toArray, List.set_cons_zero, List.set_cons_succ])
    (refine wpAnyH_take (i := 17) (oi := ⟨some 72, _, _, _, _, _⟩) (v := ?_) rfl (by kernel_rfl) (by kernel_rfl) (by kernel_rfl) (fun _ _ _ h => h) (Or.inl ⟨by rfl, ?_⟩) (by assumption) ?_; rotate_left; (focus (intro w hSw; (try dsimp only at hSw); go_simp; first | done | with_reducible rfl)); try simp only [Act.put, List.setIfInBounds_toArray, List.set_cons_zero, List.set_cons_succ])
    (refine wpAnyH_take (i := 18) (oi := ⟨some 4, _, _, _, _, _⟩) (v := ?_) rfl (by kernel_rfl) (by kernel_rfl) (by kernel_rfl) (fun _ _ _ h => h) (Or.inl ⟨by rfl, ?_⟩) (by assumption) ?_; rotate_left; (focus (intro w hSw; (try dsimp only at hSw); go_simp; first | done | with_reducible rfl)); try simp only [Act.put, List.setIfInBounds_toArray, List.set_cons_zero, List.set_cons_succ])
    refine wpAnyH_done (by kernel_rfl) ?_ _
    go_wp2
    go_ret
    exact ⟨rfl, HX4.out.trans HX6.out⟩
  · obtain ⟨z1, z2⟩ := W.rv_zero l 0 0 he
    rw [z1, z2]
    have he2 : ((((W.rv l 0 0).2.2 : Nat) : Int) != 0) = true := by rw [bne_iff_ne]; omega
    generalize (W.rv l 0 0).2.2 = E at *
    clear z1 z2
    go_wp2
    go_ret
    exact ⟨rfl, HX4.out⟩

set_option maxRecDepth 100000 in
set_option maxHeartbeats 800000 in
theorem wordBack_long (n : Int) (v1 : Value) (l : List UInt8) (w : World) (h0 : Bs w v1 l) (hl : 20000 < l.length) :
    Calls Try.prog 5 #[.int .u64 n, v1] w fun e w' => e = .returned (.bool true) ∧ Ext w w' := by
  have hb0 := Lib.hid h0
  obtain ⟨a, cap, rfl⟩ := h0.shape
  clear h0
  have hd : decide (20000 < l.length) = true := by simp; omega
  go_enter Try.func5, Try.ntmps5
  go_wp2_with fail
  refine (awake w).mono ?_
  rintro e w1 ⟨rfl, hx1⟩
  have HX1 := Lib.hid hx1
  clear hx1
  go_wp2_with fail
  refine (long_any _ l w1 (hb0.out.ext HX1.out)).mono ?_
  rintro e w2 ⟨rfl, rfl⟩
  rw [hd]
  go_wp2
  go_ret
  exact ⟨rfl, HX1.out⟩

theorem walk_wordBack (n : Int) (v1 : Value) (l : List UInt8) (w : World) (h0 : (Lit.int .u64 n).wf = true) (h1 : Bs w v1 l) :
    Calls Try.prog 5 #[.int .u64 n, v1] w fun e w' => e = .returned (.bool true) ∧ Ext w w' := by
  by_cases hl : 20000 < l.length
  · exact wordBack_long n v1 l w h1 hl
  · obtain ⟨k, rfl⟩ := Int.eq_ofNat_of_zero_le (wf_u64 h0).1
    have h4 := wf_u64 h0
    exact wordBack_core k v1 l w h1 (by omega) (by omega)
end Go.Proofs.Ytnbadeaiocandaa
