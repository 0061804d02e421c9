/- jetwaylaw05.begun: with a script. -/
import Derived.Test.YtmcmocakfhedfaaAlist
namespace Go.Proofs.Ytmcmocakfhedfaa
open Go.RowKit

set_option maxRecDepth 100000 in
set_option maxHeartbeats 1600000 in
theorem begunS_bad (n : Int) (sv : Value) (l : List Act5) (w : World) (hs : ActsIn w sv l) (h : n < 4 ∨ 60 < n ∨ 40 < l.length) :
    Calls Try.prog 15 #[.int .i64 n, sv] w fun e w' => e = .returned (.tuple #[.pointer none, .pointer none, .bool false]) ∧ Ext w w' := by
  obtain ⟨a, cap, rfl, _⟩ := hs.shape
  clear hs
  by_cases h1 : n < 1 ∨ 4096 < n
  · have hb := disk_new_bad n w h1
    clear h h1
    go_enter Try.func15, Try.ntmps15
    go_wp2_with fail
    refine hb.mono ?_
    rintro e w1 ⟨rfl, rfl⟩
    go_wp2
    go_ret3
    exact ⟨rfl, Ext.refl w⟩
  · have hb := held_new n w (by omega) (by omega)
    go_enter Try.func15, Try.ntmps15
    go_wp2_with fail
    refine hb.mono ?_
    rintro e w1 ⟨rfl, hH⟩
    have HX := Lib.hid hH.ext
    clear hb hH
    by_cases h2 : n < 4
    · clear h h1
      go_wp2
      go_ret3
      exact ⟨rfl, HX.out⟩
    · have h4 : decide (n < 4) = false := decide_eq_false h2
      by_cases h3 : 60 < n
      · clear h h1 h2
        go_wp2
        go_ret3
        exact ⟨rfl, HX.out⟩
      · have h5 : decide (60 < n) = false := decide_eq_false h3
        have h6 : (40 : Int) < (l.length : Int) := by omega
        clear h h1 h2 h3
        go_wp2
        go_ret3
        exact ⟨rfl, HX.out⟩
set_option maxRecDepth 100000 in
set_option maxHeartbeats 3200000 in
theorem begunS (n : Int) (sv : Value) (l : List Act5) (w : World) (hs : ActsIn w sv l) (hl : l.length ≤ 40) (h1 : 4 ≤ n) (h2 : n ≤ 60) :
    Calls Try.prog 15 #[.int .i64 n, sv] w fun e w' => ∃ p q Y g recs, e = .returned (.tuple #[.pointer (some ⟨p, 0, none⟩), .pointer (some ⟨q, 0, none⟩), .bool true]) ∧ Logd w w' (fun k => k < w.heap.size) p q ⟨Y, g, recs, false⟩ ∧ W5.Live Y g recs ∧ Y.n = n ∧ Y.armed = false ∧ 1 ≤ g ∧ g ≤ 41 := by
  obtain ⟨a, cap, rfl, _⟩ := hs.shape
  have HS := Lib.hid hs
  clear hs
  have hb := held_new n w (by omega) (by omega)
  have d1 : decide (n < 4) = false := decide_eq_false (by omega)
  have d2 : decide (60 < n) = false := decide_eq_false (by omega)
  have d3 : decide ((40 : Int) < (l.length : Int)) = false := decide_eq_false (by omega)
  have hli : (l.length : Int) ≤ 40 := by omega
  go_enter Try.func15, Try.ntmps15
  go_wp2_with fail
  refine hb.mono ?_
  rintro e w1 ⟨rfl, hH⟩
  obtain ⟨f1, Y, f2, f3, f4, f5⟩ := W5.fresh_open h1 hH.okd
  generalize w.heap.size + 1 = p at *
  have hop := open_any hH (Nat.zero_le _)
  have HOP := Lib.hid hop
  clear hop hH hb
  go_wp2_with fail
  unfold Opened at HOP
  refine HOP.out.mono ?_
  clear HOP
  rintro e w2 (⟨_, q, rfl, hq, hL, _⟩ | ⟨h9, _⟩)
  · rw [f2] at hL
    have HL := Lib.hid hL
    have HLV := Lib.hid f3
    have HYN := Lib.hid f4
    have HYM := Lib.hid f5
    clear hL f1 f2 f3 f4 f5 d1 d2 d3 h1 h2
    go_wp2
    go_loopw [10] (fun iv wr => ∃ k : Nat, ∃ Y g recs, k ≤ l.length ∧ iv = .int .i64 (k : Int) ∧ Hid (Logd w wr (fun k => k < w.heap.size) p q ⟨Y, g, recs, false⟩) ∧ Hid (W5.Live Y g recs) ∧ Hid (Y.n = n ∧ Y.armed = false ∧ 1 ≤ g ∧ g ≤ k + 1)) (fun iv _ => l.length - (intOf iv).toNat)
    case atStart => exact ⟨0, Y, 1, [], by omega, rfl, HL.out, HLV.out, HYN.out, HYM.out, by decide, by decide⟩
    case round =>
      clear HL HLV HYN HYM
      obtain ⟨k, Y, g, recs, hk, rfl, hL, hlv, hY⟩ := hrel
      by_cases hlt : k < l.length
      · have hlti : (k : Int) < (l.length : Int) := by omega
        obtain ⟨b, off, rfl, hact⟩ := HS.out.at k hlt
        generalize l[k] = x at *
        obtain ⟨kind, xi, xn, size, data, keep, mask⟩ := x
        have hbw : b < w.heap.size := by
          obtain ⟨_, _, g0, _⟩ := hact
          exact World.block_lt_of_cell? w _ g0
        obtain ⟨dv, kv, g0, g1, g2, g3, g4, g5, g6, hbd, hbk, w1', w2', w3', w4'⟩ := hact.ext hL.out.held.ext
        simp only at g0 g1 g2 g3 g4 g5 g6 hbd hbk
        obtain ⟨da, dc, rfl⟩ := hbd.shape
        obtain ⟨ka, kc, hkv⟩ := hbk.shape
        rw [List.length_map] at hkv
        subst hkv
        clear hact hbk w1' w2' w3' w4'
        by_cases k0 : kind = 0
        · subst k0
          have hre := fun (w' : World) (hx2 : Ext wr w') => record_any _ data size w' (hbd.ext hx2)
          unfold MadeB at hre
          have hx0 := Ext.of_drew wr
          have hap := fun (wa w5 : World) (v : Value) (hxa : Ext wr wa) (hx : Ext wa w5) (hown : w5.ownsRow wa.heap.size 5 1 v (W5.record data size).length ((W5.record data size).map byteVal)) => append_new hL.out (hxa.trans hx) v (W5.record data size) (Bs.of_own hown) (fun k hk => .inr ⟨Nat.le_trans hxa.size (hown.lt k hk).1, (hown.lt k hk).2⟩) (by simp only; rw [hlv.out.wait]; exact Nat.zero_le _)
          have hall := W5.append_law hlv.out (W5.record data size)
          go_wp2_with fail
          go_region_held3 (fun w' => w'.cell? ⟨b, off + k * 7 + 3, none⟩ = some (.int .i64 size) ∧ w'.cell? ⟨b, off + k * 7 + 4, none⟩ = some (.slice da data.length dc)) (first
              | exact ⟨Ext.cell hx0 g3, Ext.cell hx0 g4⟩
              | exact ⟨Ext.cell hx5 (Ext.cell hx0 g3), Ext.cell hx5 (Ext.cell hx0 g4)⟩
              | exact ⟨Keeps.cell hK6 g3 hbw, Keeps.cell hK6 g4 hbw⟩) (first
            | (go_at_call 16; refine (hre _ hx0).mono ?_; rintro e w5 ⟨v5, rfl, hown5, hx5⟩)
            | (go_at_call 17; refine (hap _ _ _ hx0 hx5 hown5).mono ?_; rintro e w6 ⟨rfl, hL6, hK6⟩))
          have HL6 := Lib.hid hL6
          clear hL6 hK6 hown5 hx5 hx0 hre hap g0 g1 g2 g3 g4 g5 g6 hbd
          rcases hall with ⟨q1, _⟩ | ⟨_, Y2, q2, q3, q4, q5⟩ | ⟨_, q2, _⟩
          · rw [q1] at HL6
            clear q1
            go_wp2
            go_roundw
            case rel => exact ⟨k + 1, Y, g, recs, by omega, by go_num, HL6, hlv, hY.out.1, hY.out.2.1, hY.out.2.2.1, Nat.le_succ_of_le hY.out.2.2.2⟩
            case measure => (simp [intOf]; try omega)
          · rw [q2] at HL6
            have HLV2 := Lib.hid q3
            have HN2 := Lib.hid (q4.trans hY.out.1)
            have HM2 := Lib.hid (q5.trans hY.out.2.1)
            clear q2 q3 q4 q5
            go_wp2
            go_roundw
            case rel => exact ⟨k + 1, Y2, g, _, by omega, by go_num, HL6, HLV2, HN2.out, HM2.out, hY.out.2.2.1, Nat.le_succ_of_le hY.out.2.2.2⟩
            case measure => (simp [intOf]; try omega)
          · rw [hY.out.2.1] at q2; cases q2
        · have k0b : (kind == 0) = false := by rw [beq_eq_false_iff_ne]; exact k0
          clear k0
          by_cases k1 : kind = 1
          · subst k1
            have hre := list_any 1 xi xn size mask (.slice da data.length dc) (.slice ka keep.length kc) data wr hbd
            have HRE := Lib.hid hre
            have hall := W5.renew_law hlv.out hL.out.ok (by have := hY.out.2.2.2; omega) (W5.alist data size)
            have hal : (W5.alist data size).length ≤ 12 := by rw [W5.alist_len]; omega
            clear hre
            go_wp2_with fail
            refine HRE.out.mono ?_
            clear HRE
            rintro e w5 ⟨v5, vs5, rfl, hR5, hx5⟩
            have hrn := renew_new hL.out hx5 v5 (W5.alist data size) (hR5.rows (fun k h1 h2 => .inr ⟨h1, h2⟩)) (by omega) (by simp only; rw [hlv.out.wait]; exact Nat.zero_le _)
            have HRN := Lib.hid hrn
            clear hrn hR5 hx5 g0 g1 g2 g3 g4 g5 g6 hbd
            go_wp2_with fail
            refine HRN.out.mono ?_
            clear HRN
            rintro e w6 ⟨rfl, hL6, _⟩
            have HL6 := Lib.hid hL6
            clear hL6
            rcases hall with ⟨q1, _⟩ | ⟨_, Y2, q2, q3, q4, q5⟩ | ⟨_, q2, _⟩
            · rw [q1] at HL6
              clear q1
              go_wp2
              go_roundw
              case rel => exact ⟨k + 1, Y, g, recs, by omega, by go_num, HL6, hlv, hY.out.1, hY.out.2.1, hY.out.2.2.1, Nat.le_succ_of_le hY.out.2.2.2⟩
              case measure => (simp [intOf]; try omega)
            · rw [q2] at HL6
              have HLV2 := Lib.hid q3
              have HN2 := Lib.hid (q4.trans hY.out.1)
              have HM2 := Lib.hid (q5.trans hY.out.2.1)
              clear q2 q3 q4 q5
              go_wp2
              go_roundw
              case rel => exact ⟨k + 1, Y2, g + 1, _, by omega, by go_num, HL6, HLV2, HN2.out, HM2.out, Nat.le_add_left _ _, Nat.succ_le_succ hY.out.2.2.2⟩
              case measure => (simp [intOf]; try omega)
            · rw [hY.out.2.1] at q2; cases q2
          · have k1b : (kind == 1) = false := by rw [beq_eq_false_iff_ne]; exact k1
            clear k1
            go_wp2
            go_roundw
            case rel => exact ⟨k + 1, Y, g, recs, by omega, by go_num, hL, hlv, hY.out.1, hY.out.2.1, hY.out.2.2.1, Nat.le_succ_of_le hY.out.2.2.2⟩
            case measure => (simp [intOf]; try omega)
      · obtain rfl : k = l.length := by omega
        obtain ⟨y1, y2, y3, y4⟩ := hY.out
        have HF := Lib.hid (And.intro y1 (And.intro y2 (And.intro y3 (show g ≤ 41 by omega))))
        clear y1 y2 y3 y4 hY
        go_wp2
        go_ret3
        exact ⟨p, q, Y, g, recs, rfl, hL.out, hlv.out, HF.out⟩
  · exact absurd f1 h9
end Go.Proofs.Ytmcmocakfhedfaa
