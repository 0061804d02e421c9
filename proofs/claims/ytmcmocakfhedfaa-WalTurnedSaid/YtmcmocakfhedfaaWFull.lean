/- The walk of WalFull. (Printed by tools/mkwfull.py.) -/
import Derived.Test.YtmcmocakfhedfaaBegun
import Derived.Test.YtmcmocakfhedfaaOpen
namespace Go.Proofs.Ytmcmocakfhedfaa
open Go.RowKit

theorem two_bytes (w : World) (k : Nat) (c : UInt8) (hk : k < 256) : Bs (w.alloc (.cells #[.int .u8 (k : Int), .int .u8 (c.toNat : Int)] 5)) (.slice (some ⟨w.heap.size, 0, none⟩) 2 2) [UInt8.ofNat k, c] := by
  have h := Bs.lit w [UInt8.ofNat k, c] 5 (by simp [maxLen])
  have e : ([UInt8.ofNat k, c].map byteVal).toArray = #[.int .u8 (k : Int), .int .u8 (c.toNat : Int)] := by
    have e1 : (UInt8.ofNat k).toNat = k := by simp; omega
    simp only [List.map_cons, List.map_nil, byteVal, e1]
  rw [e] at h
  exact h
theorem need_div (L : Nat) : (L = 0 ∧ W5.need L = 1) ∨ (0 < L ∧ L % 491 = 0 ∧ W5.need L = L / 491) ∨ (0 < L ∧ L % 491 ≠ 0 ∧ W5.need L = L / 491 + 1) := by
  unfold W5.need
  split <;> omega

set_option maxRecDepth 100000 in
set_option maxHeartbeats 6400000 in
theorem walFull_core (n : Int) (sv : Value) (l : List Int) (w : World) (hs : Reads w sv (l.map intVal)) (hl : l.length ≤ 100) (h1 : 4 ≤ n) (h2 : n ≤ 60) :
    Calls Try.prog 4 #[.int .i64 n, sv] w fun e w' => e = .returned (.bool true) ∧ Ext w w' := by
  obtain ⟨i0, hi0, hz0, hz1, hz2⟩ := info_parts info_str
  obtain ⟨a, cap, rfl⟩ := hs.shape
  rw [List.length_map]
  have HS := Lib.hid hs
  have hli : (l.length : Int) ≤ 100 := by omega
  clear hs
  go_enter Try.func4, Try.ntmps4
  go_wp2_with fail
  refine (awake5 w).mono ?_
  rintro e w1 ⟨rfl, hx1⟩
  have HX1 := Lib.hid hx1
  clear hx1
  go_wp2_with fail
  refine (begun_nil n w1 h1 h2).mono ?_
  rintro e w2 ⟨p, q, Y0, rfl, hL, hlv, hyn, hya⟩
  have HL0 := Lib.hid hL
  have HLV0 := Lib.hid hlv
  have HW12 := Lib.hid (Nat.le_trans HX1.out.size hL.held.ext.size)
  clear hL hlv
  obtain ⟨A, hA⟩ : ∃ A, A = W5.area Y0 := ⟨_, rfl⟩
  have hdv2 : (n - 2).tdiv 2 = (A : Int) := by
    rw [hA, ← W5.area_eq Y0, hyn]
    unfold W5.areaI
    rw [if_neg (by omega)]
    exact Int.tdiv_eq_ediv_of_nonneg (by omega)
  have hA60 : (A : Int) ≤ 29 := by
    rw [hA, ← W5.area_eq Y0, hyn]
    unfold W5.areaI
    rw [if_neg (by omega)]; omega
  have HA := Lib.hid hA
  clear hA
  go_wp2
  go_loopw [8, 9, 10] (fun uv wv iv wr => ∃ k : Nat, ∃ recs : List (List UInt8), ∃ X : Nat → Prop, ∃ Y : D.Dsk, k ≤ l.length ∧ iv = .int .i64 (k : Int) ∧ uv = .int .i64 (W5.used recs : Int) ∧ recs.length ≤ k ∧ Hid (wr.ownsRow w1.heap.size 9 1 wv recs.length (recs.map strV)) ∧ Hid (∀ b, wv.ownBlock = some b → X b) ∧ Hid (Logd w1 wr X p q ⟨Y, 1, recs, false⟩) ∧ Hid (W5.Live Y 1 recs) ∧ Hid (Y.n = n ∧ Y.armed = false ∧ W5.area Y = A)) (fun _ _ iv _ => l.length - (intOf iv).toNat)
  case atStart => exact ⟨0, [], _, Y0, by omega, rfl, rfl, by decide, World.ownsRow_nil _ _ _ _, (fun b h => by simp [Value.ownBlock] at h), HL0.out, HLV0.out, hyn, hya, HA.out.symm⟩
  case round =>
    obtain ⟨k, recs, X, Y, hk, rfl, rfl, hrk, hown, hwX, hL, hlv, hY⟩ := hrel
    obtain ⟨hyn', hya', hyA⟩ := hY.out
    have huA : W5.used recs ≤ A := by rw [← hyA]; exact hL.out.fit
    have HYA := Lib.hid hyA
    have HYN := Lib.hid hyn'
    have HYM := Lib.hid hya'
    clear hY hyA hyn' hya'
    by_cases hlt : k < l.length
    · have hlti : (k : Int) < (l.length : Int) := by omega
      obtain ⟨b, off, rfl, hcell⟩ := HS.out.at k (by rw [List.length_map]; exact hlt)
      rw [List.getElem_map] at hcell
      unfold intVal at hcell
      have hxw : Ext w wr := HX1.out.trans hL.out.held.ext
      have hcell2 := Ext.cell hxw hcell
      generalize l[k] = S at *
      have hb0 := two_bytes wr k 3 (by omega)
      have hx0 := Ext.of_alloc wr (.cells #[.int .u8 (k : Int), .int .u8 3] 5)
      have hki : (k : Int) < 256 := by omega
      have hcell3 := Ext.cell hx0 hcell2
      clear hcell hxw
      go_wp2_with fail
      refine (record_any _ _ S _ hb0).mono ?_
      rintro e w3 ⟨v3, rfl, hown3, hx3⟩
      have hrl := W5.record_len [UInt8.ofNat k, 3] S
      have hrn := W5.recN_le S
      rw [← hrl] at hrn
      clear hrl
      generalize W5.record [UInt8.ofNat k, 3] S = B at *
      have HX3 := Lib.hid (hx0.trans hx3)
      have HL3 := Lib.hid (hL.out.all HX3.out)
      have HO3 := Lib.hid hown3
      have hap := append_any HL3.out v3 B (Bs.of_own hown3) (fun k hk => .inr ⟨Nat.le_trans hx0.size (hown3.lt k hk).1, (hown3.lt k hk).2⟩) (by simp only; rw [hlv.out.wait]; exact Nat.zero_le _)
      have HAP := Lib.hid hap
      have HWX := Lib.hid (show ∀ b, u9.ownBlock = some b → New X wr w3 b from fun b hb => .inl (hwX.out b hb))
      have HOW := Lib.hid (HX3.out.keptOwn hown.out)
      have HVX := Lib.hid (show ∀ b, v3.ownBlock = some b → New X wr w3 b from fun k hk => .inr ⟨Nat.le_trans hx0.size (hown3.lt k hk).1, (hown3.lt k hk).2⟩)
      obtain ⟨va, vc, rfl⟩ := (Bs.of_own hown3).shape
      clear hap hx3 hx0 hb0 hown3 hown hwX hL
      generalize New X wr w3 = X2 at *
      go_wp2_with fail
      refine HAP.out.mono ?_
      clear HAP
      rintro e w4 ⟨rfl, hL4, hK4⟩
      have HOW4 := Lib.hid (hK4.own HOW.out HWX.out)
      have HB4 := Lib.hid (hK4.bs (Bs.of_own HO3.out) HVX.out)
      have HL4 := Lib.hid hL4
      have hx34 := Lib.hid hK4
      clear hL4 hK4 HO3 HOW HL3
      have hBi : (B.length : Int) ≤ 10000 := by omega
      obtain ⟨D, hD⟩ : ∃ D, D = B.length / 491 := ⟨_, rfl⟩
      obtain ⟨R, hR⟩ : ∃ R, R = B.length % 491 := ⟨_, rfl⟩
      have htd : (B.length : Int).tdiv 491 = (D : Int) := by rw [hD]; exact Int.ofNat_tdiv _ _
      have htm : (B.length : Int).tmod 491 = (R : Int) := by rw [hR, Int.ofNat_tmod]; rfl
      have hDi : (D : Int) ≤ 20 := by omega
      have hui : (W5.used recs : Int) ≤ 29 := by omega
      rcases need_div B.length with ⟨z1, z2⟩ | ⟨z1, z2, z3⟩ | ⟨z1, z2, z3⟩
      · obtain rfl : B = [] := List.eq_nil_of_length_eq_zero z1
        have hnd : W5.need ([] : List UInt8).length = 1 := z2
        have hD0 : D = 0 := by rw [hD]; rfl
        have hR0 : R = 0 := by rw [hR]; rfl
        subst hD0 hR0
        clear hD hR z2
        skip
        have h8n : ([] : List UInt8).length ≤ 8192 := by decide
        by_cases h9 : A < W5.used recs + 1
        · have h9i : (A : Int) < (W5.used recs : Int) + 1 := by omega
          have hfu := W5.append_full (d := Y) (g := 1) (recs := recs) ([] : List UInt8) h8n (by rw [HYA.out]; omega)
          rw [hfu] at HL4 ⊢
          clear h9 hfu z1
          go_wp2
          go_roundw
          case rel => exact ⟨k + 1, recs, X2, Y, by omega, by go_num, rfl, by omega, HOW4, HWX, HL4, hlv, HYN.out, HYM.out, HYA.out⟩
          case measure => (simp [intOf]; try omega)
        · have h9i : decide ((A : Int) < (W5.used recs : Int) + 1) = false := decide_eq_false (by omega)
          obtain ⟨e1, Y2, e2, lv2, n2, ar2⟩ := W5.append_ok hlv.out HYM.out ([] : List UInt8) h8n (by rw [HYA.out]; omega)
          have HU2 : Hid (W5.used (recs ++ [([] : List UInt8)]) = W5.used recs + 1) := by unfold Hid; rw [W5.used_snoc]; omega
          rw [e2] at HL4
          rw [e1]
          have cv := HB4.out.toString (P := Try.prog) 31 9 5 Try.underlying31 Try.underlying5 Try.underlying9
          have cv : (convert 31 9 (.slice va 0 vc)).run Try.prog w4 = .ok (.string ⟨([] : List UInt8).toArray⟩) w4 := cv
          have hxa := Ext.of_alloc w4 (.cells #[strV ([] : List UInt8)] 9)
          have HROW := Lib.hid (hxa.keptOwn HOW4.out)
          have hnews : ∀ j u, [strV ([] : List UInt8)][j]? = some u → (w4.alloc (.cells #[strV ([] : List UInt8)] 9)).cell? ((⟨w4.heap.size, 0, none⟩ : Addr).add j) = some u := by
            intro j u hj
            rw [Addr.add_lit, World.cell?_alloc_at _ _ _ _ rfl]
            simpa using hj
          have HNEWS := Lib.hid hnews
          have HLV2 := Lib.hid lv2
          have HN2 := Lib.hid n2
          have HM2 := Lib.hid ar2
          have hbse := Lib.hid (Nat.le_trans HL4.out.held.ext.size hxa.size)
          clear h9 e1 e2 lv2 n2 ar2 hnews z1
          have hrl2 : recs.length ≤ 100 := by omega
          generalize W5.used recs = U at *
          go_wp2_with (first
            | (at_builtin; refine wpList_append_lies _ rfl _ _ 30 rfl w1.heap.size 9 i0 (.string ⟨#[]⟩) 1 16 Try.underlying30 hi0 hz0 hz1 hz2 (by rfl) (by decide) u9 recs.length (recs.map strV) (by rfl) HROW.out ⟨w4.heap.size, 0, none⟩ 1 1 [strV ([] : List UInt8)] (by rfl) rfl HNEWS.out (by simp [strV, Value.oneCell']) (by decide) (by unfold maxLen; omega) (by omega) hbse.out (w4.heap.size + 1) (by simp) ?_; intro g7 cap7 w5 hown5 hgrow5 hat5 hlt5)
            | fail)
          have hm5 : Mod (fun k => u9.ownBlock = some k) w4 w5 := (Mod.of_ext hxa).trans (Mod.grown hgrow5 (fun k e _ => e)) (fun _ _ h => h)
          have HL5 := Lib.hid (HL4.out.mod_in hm5 (fun k hk => ⟨HWX.out k hk, (HOW4.out.lt k hk).1⟩))
          have HWX5 := Lib.hid (show ∀ b, (Value.slice (some ⟨g7, 0, none⟩) (recs.length + 1) cap7).ownBlock = some b → New X2 w4 w5 b from by
            intro b hb
            have e : g7 = b := by simpa [Value.ownBlock] using hb
            subst e
            rcases hat5 with h | h
            · exact .inl (HWX.out _ h)
            · exact .inr ⟨by omega, hlt5⟩)
          have HO5 := Lib.hid (show w5.ownsRow w1.heap.size 9 1 (.slice (some ⟨g7, 0, none⟩) (recs.length + 1) cap7) (recs ++ [([] : List UInt8)]).length ((recs ++ [([] : List UInt8)]).map strV) by rw [List.length_append, List.map_append]; exact hown5)
          have hrm := logd_room HL5.out
          simp only at hrm
          rw [HU2.out, W5.area_same HN2.out, HYA.out] at hrm
          have HRM := Lib.hid hrm
          clear hrm hm5 hown5 hgrow5 hat5 hlt5 cv HROW HNEWS hxa HOW4 HB4 HL4
          go_wp2_with fail
          refine HRM.out.mono ?_
          clear HRM
          rintro e w6 ⟨rfl, hx6⟩
          have HL6 := Lib.hid (HL5.out.after hx6)
          have HO6 := Lib.hid (hx6.keptOwn HO5.out)
          clear hx6 HL5 HO5
          have hUN : (U : Int) ≤ 29 := hui
          have hcast : ((U + 1 : Nat) : Int) = (U : Int) + 1 := by omega
          rw [hcast]
          go_wp2
          go_roundw
          case rel => exact ⟨k + 1, recs ++ [([] : List UInt8)], _, Y2, by omega, by go_num, by rw [HU2.out, hcast], by rw [List.length_append]; simp; omega, HO6, HWX5, HL6, HLV2, HN2.out.trans HYN.out, HM2.out, (W5.area_same HN2.out).trans HYA.out⟩
          case measure => (simp [intOf]; try omega)
      · have hnd : W5.need B.length = D := by omega
        have hR0 : R = 0 := by omega
        subst hR0
        have hgt : (0 : Int) < (B.length : Int) := by omega
        clear hD hR z2 z3
        by_cases h8 : 8192 < B.length
        · have h8i : (8192 : Int) < (B.length : Int) := by omega
          have hsz := W5.append_size (d := Y) (g := 1) (recs := recs) B h8
          rw [hsz] at HL4 ⊢
          clear h8 hsz z1
          go_wp2
          go_roundw
          case rel => exact ⟨k + 1, recs, X2, Y, by omega, by go_num, rfl, by omega, HOW4, HWX, HL4, hlv, HYN.out, HYM.out, HYA.out⟩
          case measure => (simp [intOf]; try omega)
        · have h8i : decide ((8192 : Int) < (B.length : Int)) = false := decide_eq_false (by omega)
          have h8n : B.length ≤ 8192 := by omega
          clear h8
          by_cases h9 : A < W5.used recs + D
          · have h9i : (A : Int) < (W5.used recs : Int) + (D : Int) := by omega
            have hfu := W5.append_full (d := Y) (g := 1) (recs := recs) B h8n (by rw [HYA.out]; omega)
            rw [hfu] at HL4 ⊢
            clear h9 hfu z1
            go_wp2
            go_roundw
            case rel => exact ⟨k + 1, recs, X2, Y, by omega, by go_num, rfl, by omega, HOW4, HWX, HL4, hlv, HYN.out, HYM.out, HYA.out⟩
            case measure => (simp [intOf]; try omega)
          · have h9i : decide ((A : Int) < (W5.used recs : Int) + (D : Int)) = false := decide_eq_false (by omega)
            obtain ⟨e1, Y2, e2, lv2, n2, ar2⟩ := W5.append_ok hlv.out HYM.out B h8n (by rw [HYA.out]; omega)
            have HU2 : Hid (W5.used (recs ++ [B]) = W5.used recs + D) := by unfold Hid; rw [W5.used_snoc]; omega
            rw [e2] at HL4
            rw [e1]
            have cv := HB4.out.toString (P := Try.prog) 31 9 5 Try.underlying31 Try.underlying5 Try.underlying9
            have hxa := Ext.of_alloc w4 (.cells #[strV B] 9)
            have HROW := Lib.hid (hxa.keptOwn HOW4.out)
            have hnews : ∀ j u, [strV B][j]? = some u → (w4.alloc (.cells #[strV B] 9)).cell? ((⟨w4.heap.size, 0, none⟩ : Addr).add j) = some u := by
              intro j u hj
              rw [Addr.add_lit, World.cell?_alloc_at _ _ _ _ rfl]
              simpa using hj
            have HNEWS := Lib.hid hnews
            have HLV2 := Lib.hid lv2
            have HN2 := Lib.hid n2
            have HM2 := Lib.hid ar2
            have hbse := Lib.hid (Nat.le_trans HL4.out.held.ext.size hxa.size)
            clear h9 e1 e2 lv2 n2 ar2 hnews z1
            have hrl2 : recs.length ≤ 100 := by omega
            generalize W5.used recs = U at *
            go_wp2_with (first
              | (at_builtin; refine wpList_append_lies _ rfl _ _ 30 rfl w1.heap.size 9 i0 (.string ⟨#[]⟩) 1 16 Try.underlying30 hi0 hz0 hz1 hz2 (by rfl) (by decide) u9 recs.length (recs.map strV) (by rfl) HROW.out ⟨w4.heap.size, 0, none⟩ 1 1 [strV B] (by rfl) rfl HNEWS.out (by simp [strV, Value.oneCell']) (by decide) (by unfold maxLen; omega) (by omega) hbse.out (w4.heap.size + 1) (by simp) ?_; intro g7 cap7 w5 hown5 hgrow5 hat5 hlt5)
              | fail)
            have hm5 : Mod (fun k => u9.ownBlock = some k) w4 w5 := (Mod.of_ext hxa).trans (Mod.grown hgrow5 (fun k e _ => e)) (fun _ _ h => h)
            have HL5 := Lib.hid (HL4.out.mod_in hm5 (fun k hk => ⟨HWX.out k hk, (HOW4.out.lt k hk).1⟩))
            have HWX5 := Lib.hid (show ∀ b, (Value.slice (some ⟨g7, 0, none⟩) (recs.length + 1) cap7).ownBlock = some b → New X2 w4 w5 b from by
              intro b hb
              have e : g7 = b := by simpa [Value.ownBlock] using hb
              subst e
              rcases hat5 with h | h
              · exact .inl (HWX.out _ h)
              · exact .inr ⟨by omega, hlt5⟩)
            have HO5 := Lib.hid (show w5.ownsRow w1.heap.size 9 1 (.slice (some ⟨g7, 0, none⟩) (recs.length + 1) cap7) (recs ++ [B]).length ((recs ++ [B]).map strV) by rw [List.length_append, List.map_append]; exact hown5)
            have hrm := logd_room HL5.out
            simp only at hrm
            rw [HU2.out, W5.area_same HN2.out, HYA.out] at hrm
            have HRM := Lib.hid hrm
            clear hrm hm5 hown5 hgrow5 hat5 hlt5 cv HROW HNEWS hxa HOW4 HB4 HL4
            go_wp2_with fail
            refine HRM.out.mono ?_
            clear HRM
            rintro e w6 ⟨rfl, hx6⟩
            have HL6 := Lib.hid (HL5.out.after hx6)
            have HO6 := Lib.hid (hx6.keptOwn HO5.out)
            clear hx6 HL5 HO5
            have hUN : (U : Int) ≤ 29 := hui
            have hcast : ((U + D : Nat) : Int) = (U : Int) + (D : Int) := by omega
            rw [hcast]
            go_wp2
            go_roundw
            case rel => exact ⟨k + 1, recs ++ [B], _, Y2, by omega, by go_num, by rw [HU2.out, hcast], by rw [List.length_append]; simp; omega, HO6, HWX5, HL6, HLV2, HN2.out.trans HYN.out, HM2.out, (W5.area_same HN2.out).trans HYA.out⟩
            case measure => (simp [intOf]; try omega)
      · have hnd : W5.need B.length = D + 1 := by omega
        have hRn : ((R : Int) == 0) = false := by rw [beq_eq_false_iff_ne]; omega
        have hgt : (0 : Int) < (B.length : Int) := by omega
        clear hD hR z2 z3
        by_cases h8 : 8192 < B.length
        · have h8i : (8192 : Int) < (B.length : Int) := by omega
          have hsz := W5.append_size (d := Y) (g := 1) (recs := recs) B h8
          rw [hsz] at HL4 ⊢
          clear h8 hsz z1
          go_wp2
          go_roundw
          case rel => exact ⟨k + 1, recs, X2, Y, by omega, by go_num, rfl, by omega, HOW4, HWX, HL4, hlv, HYN.out, HYM.out, HYA.out⟩
          case measure => (simp [intOf]; try omega)
        · have h8i : decide ((8192 : Int) < (B.length : Int)) = false := decide_eq_false (by omega)
          have h8n : B.length ≤ 8192 := by omega
          clear h8
          by_cases h9 : A < W5.used recs + (D + 1)
          · have h9i : (A : Int) < (W5.used recs : Int) + ((D : Int) + 1) := by omega
            have hfu := W5.append_full (d := Y) (g := 1) (recs := recs) B h8n (by rw [HYA.out]; omega)
            rw [hfu] at HL4 ⊢
            clear h9 hfu z1
            go_wp2
            go_roundw
            case rel => exact ⟨k + 1, recs, X2, Y, by omega, by go_num, rfl, by omega, HOW4, HWX, HL4, hlv, HYN.out, HYM.out, HYA.out⟩
            case measure => (simp [intOf]; try omega)
          · have h9i : decide ((A : Int) < (W5.used recs : Int) + ((D : Int) + 1)) = false := decide_eq_false (by omega)
            obtain ⟨e1, Y2, e2, lv2, n2, ar2⟩ := W5.append_ok hlv.out HYM.out B h8n (by rw [HYA.out]; omega)
            have HU2 : Hid (W5.used (recs ++ [B]) = W5.used recs + (D + 1)) := by unfold Hid; rw [W5.used_snoc]; omega
            rw [e2] at HL4
            rw [e1]
            have cv := HB4.out.toString (P := Try.prog) 31 9 5 Try.underlying31 Try.underlying5 Try.underlying9
            have hxa := Ext.of_alloc w4 (.cells #[strV B] 9)
            have HROW := Lib.hid (hxa.keptOwn HOW4.out)
            have hnews : ∀ j u, [strV B][j]? = some u → (w4.alloc (.cells #[strV B] 9)).cell? ((⟨w4.heap.size, 0, none⟩ : Addr).add j) = some u := by
              intro j u hj
              rw [Addr.add_lit, World.cell?_alloc_at _ _ _ _ rfl]
              simpa using hj
            have HNEWS := Lib.hid hnews
            have HLV2 := Lib.hid lv2
            have HN2 := Lib.hid n2
            have HM2 := Lib.hid ar2
            have hbse := Lib.hid (Nat.le_trans HL4.out.held.ext.size hxa.size)
            clear h9 e1 e2 lv2 n2 ar2 hnews z1
            have hrl2 : recs.length ≤ 100 := by omega
            generalize W5.used recs = U at *
            go_wp2_with (first
              | (at_builtin; refine wpList_append_lies _ rfl _ _ 30 rfl w1.heap.size 9 i0 (.string ⟨#[]⟩) 1 16 Try.underlying30 hi0 hz0 hz1 hz2 (by rfl) (by decide) u9 recs.length (recs.map strV) (by rfl) HROW.out ⟨w4.heap.size, 0, none⟩ 1 1 [strV B] (by rfl) rfl HNEWS.out (by simp [strV, Value.oneCell']) (by decide) (by unfold maxLen; omega) (by omega) hbse.out (w4.heap.size + 1) (by simp) ?_; intro g7 cap7 w5 hown5 hgrow5 hat5 hlt5)
              | fail)
            have hm5 : Mod (fun k => u9.ownBlock = some k) w4 w5 := (Mod.of_ext hxa).trans (Mod.grown hgrow5 (fun k e _ => e)) (fun _ _ h => h)
            have HL5 := Lib.hid (HL4.out.mod_in hm5 (fun k hk => ⟨HWX.out k hk, (HOW4.out.lt k hk).1⟩))
            have HWX5 := Lib.hid (show ∀ b, (Value.slice (some ⟨g7, 0, none⟩) (recs.length + 1) cap7).ownBlock = some b → New X2 w4 w5 b from by
              intro b hb
              have e : g7 = b := by simpa [Value.ownBlock] using hb
              subst e
              rcases hat5 with h | h
              · exact .inl (HWX.out _ h)
              · exact .inr ⟨by omega, hlt5⟩)
            have HO5 := Lib.hid (show w5.ownsRow w1.heap.size 9 1 (.slice (some ⟨g7, 0, none⟩) (recs.length + 1) cap7) (recs ++ [B]).length ((recs ++ [B]).map strV) by rw [List.length_append, List.map_append]; exact hown5)
            have hrm := logd_room HL5.out
            simp only at hrm
            rw [HU2.out, W5.area_same HN2.out, HYA.out] at hrm
            have HRM := Lib.hid hrm
            clear hrm hm5 hown5 hgrow5 hat5 hlt5 cv HROW HNEWS hxa HOW4 HB4 HL4
            go_wp2_with fail
            refine HRM.out.mono ?_
            clear HRM
            rintro e w6 ⟨rfl, hx6⟩
            have HL6 := Lib.hid (HL5.out.after hx6)
            have HO6 := Lib.hid (hx6.keptOwn HO5.out)
            clear hx6 HL5 HO5
            have hUN : (U : Int) ≤ 29 := hui
            have hcast : ((U + (D + 1) : Nat) : Int) = (U : Int) + ((D : Int) + 1) := by omega
            rw [hcast]
            go_wp2
            go_roundw
            case rel => exact ⟨k + 1, recs ++ [B], _, Y2, by omega, by go_num, by rw [HU2.out, hcast], by rw [List.length_append]; simp; omega, HO6, HWX5, HL6, HLV2, HN2.out.trans HYN.out, HM2.out, (W5.area_same HN2.out).trans HYA.out⟩
            case measure => (simp [intOf]; try omega)
    · obtain rfl : k = l.length := by omega
      have hop := open_any hL.out.held (by simp only; rw [hlv.out.wait]; exact Nat.zero_le _)
      have hol := W5.open_law hlv.out.n4 hlv.out.down hlv.out.wait hL.out.ok (B := 1) (by decide) hlv.out.tb
      have hli2 := hlv.out.list hL.out.ok
      have hcu := hlv.out.cur
      have hfo := hlv.out.next
      have HOP := Lib.hid hop
      have HOL := Lib.hid hol
      clear hop hol
      go_wp2_with fail
      unfold Opened at HOP
      refine HOP.out.mono ?_
      clear HOP
      rintro e w5 (⟨h9, q5, rfl, hq5, hL5, hK5⟩ | ⟨h9, _⟩)
      · rcases HOL.out with ⟨_, Z, N, e2, hlz, e3, _, _, _, _⟩ | ⟨h8, _⟩
        · rw [hcu] at e3
          simp only at e3
          rw [hfo] at e3
          subst e3
          rw [e2, hli2] at hL5
          have HL5 := Lib.hid hL5
          have HOW5 := Lib.hid (hK5.own hown.out hwX.out)
          have hrl : recs.length ≤ 100 := by omega
          have hX5 := HX1.out.trans hL5.held.ext
          have hre := records_any hL5
          have HRE := Lib.hid hre
          clear hL5 hK5 h9 hre HOL hlv hown hwX hL e2 hli2 hcu hfo
          go_wp2_with fail
          refine HRE.out.mono ?_
          clear HRE
          rintro e w6 ⟨v6, vs6, rfl, hR6, hx6⟩
          have hte := texts_any v6 recs w6 (hR6.rows (X := fun _ => True) (fun _ _ _ => trivial)) (by omega)
          have HTE := Lib.hid hte
          have HX6 := Lib.hid hx6
          clear hte hR6 hx6
          go_wp2_with fail
          refine HTE.out.mono ?_
          clear HTE
          rintro e w7 ⟨v7, rfl, hown7, hx7⟩
          have HX7 := Lib.hid (HX6.out.trans hx7)
          have hsa := same_any v7 u9 recs recs w7 (Reads.of_own hown7 (str_ones recs)) (Reads.of_own (HX7.out.keptOwn HOW5.out) (str_ones recs))
          rw [decide_eq_true rfl] at hsa
          have HSA := Lib.hid hsa
          clear hsa hown7 hx7
          go_wp2_with fail
          refine HSA.out.mono ?_
          clear HSA
          rintro e w8 ⟨rfl, hx8⟩
          have HX8 := Lib.hid (HX7.out.trans hx8)
          have hge := logd_generation (HL5.out.after HX8.out)
          have HGE := Lib.hid hge
          have HXF := Lib.hid (hX5.trans HX8.out)
          clear hge hx8 hX5
          go_wp2_with fail
          refine HGE.out.mono ?_
          rintro e w9 ⟨rfl, rfl⟩
          go_wp2
          go_ret
          exact ⟨rfl, HXF.out⟩
        · exact absurd h9 (by rw [h8]; decide)
      · rcases HOL.out with ⟨h8, _⟩ | ⟨_, h8, _⟩
        · exact absurd h8 h9
        · rw [HYM.out] at h8; cases h8

set_option maxRecDepth 100000 in
theorem walk_walFull (n : Int) (sv : Value) (l : List Int) (w : World) (_hn : (Lit.int .i64 n).wf = true) (hs0 : Reads w sv (l.map intVal) ∧ ∀ x ∈ l, (Lit.int .i64 x).wf = true) :
    Calls Try.prog 4 #[.int .i64 n, sv] w fun e w' => e = .returned (.bool true) ∧ Ext w w' := by
  obtain ⟨hs, _⟩ := hs0
  by_cases hl : l.length ≤ 100
  · by_cases h1 : n < 4 ∨ 60 < n
    · obtain ⟨a, cap, rfl⟩ := hs.shape
      rw [List.length_map]
      have hli : decide ((100 : Int) < (l.length : Int)) = false := decide_eq_false (by omega)
      clear hs hl
      have hbb := fun w => begun_bad n w h1
      have HBB := Lib.hid hbb
      clear hbb
      go_enter Try.func4, Try.ntmps4
      go_wp2_with fail
      refine (awake5 w).mono ?_
      rintro e w1 ⟨rfl, hx1⟩
      have HX1 := Lib.hid hx1
      clear hx1
      go_wp2_with fail
      refine (HBB.out _).mono ?_
      rintro e w2 ⟨rfl, hx2⟩
      have HX2 := Lib.hid (HX1.out.trans hx2)
      clear hx2
      by_cases h3 : n < 4
      · clear h1
        go_wp2
        go_ret
        exact ⟨rfl, HX2.out⟩
      · have h4 : 60 < n := by omega
        clear h1
        have h5 : decide (n < 4) = false := decide_eq_false h3
        clear h3
        go_wp2
        go_ret
        exact ⟨rfl, HX2.out⟩
    · exact walFull_core n sv l w hs hl (by omega) (by omega)
  · obtain ⟨a, cap, rfl⟩ := hs.shape
    rw [List.length_map]
    have hli : (100 : Int) < (l.length : Int) := by omega
    clear hs hl
    go_enter Try.func4, Try.ntmps4
    go_wp2_with fail
    refine (awake5 w).mono ?_
    rintro e w1 ⟨rfl, hx1⟩
    have HX1 := Lib.hid hx1
    clear hx1
    go_wp2
    go_ret
    exact ⟨rfl, HX1.out⟩
end Go.Proofs.Ytmcmocakfhedfaa
