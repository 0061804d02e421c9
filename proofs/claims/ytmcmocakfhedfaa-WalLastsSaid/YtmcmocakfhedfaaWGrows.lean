/- The walk of WalGrows. -/
import Derived.Test.YtmcmocakfhedfaaBegunS
import Derived.Test.YtmcmocakfhedfaaWalW
import Derived.Test.YtmcmocakfhedfaaBig
namespace Go.Proofs.Ytmcmocakfhedfaa
open Go.RowKit

/-- What reads lies in memory. -/
theorem Reads.block_lt5 {w : World} {v : Value} {cs : List Value} (h : Reads w v cs) : cs = [] ∨ ∀ k, v.ownBlock = some k → k < w.heap.size := by
  obtain ⟨a, cap, rfl, h1, h2, hn, h3, h4⟩ := h
  rcases h4 with h4 | ⟨b, off, rfl, hc⟩
  · exact .inl h4
  · cases cs with
    | nil => exact .inl rfl
    | cons u r =>
      right
      intro k hk
      obtain rfl : b = k := by simpa [Value.ownBlock] using hk
      exact World.block_lt_of_cell? w _ (hc 0 u rfl)

set_option maxRecDepth 100000 in
set_option maxHeartbeats 6400000 in
theorem walGrows_core (n : Int) (sv : Value) (l : List Act5) (w : World) (hs : ActsIn w sv l) (hl : l.length ≤ 40) (h1 : 4 ≤ n) (h2 : n ≤ 60) :
    Calls Try.prog 8 #[.int .i64 n, sv] w fun e w' => e = .returned (.bool true) ∧ Ext w w' := by
  obtain ⟨a, cap, rfl, _⟩ := hs.shape
  have HS := Lib.hid hs
  have hli : (l.length : Int) ≤ 40 := by omega
  have hli2 : decide ((40 : Int) < (l.length : Int)) = false := decide_eq_false (by omega)
  clear hs
  go_enter Try.func8, Try.ntmps8
  go_wp2_with fail
  refine (awake5 w).mono ?_
  rintro e w1 ⟨rfl, hx1⟩
  have HX1 := Lib.hid hx1
  clear hx1
  go_wp2_with fail
  refine (begun_nil n w1 h1 h2).mono ?_
  rintro e w2 ⟨p, q, Y0, rfl, hL, hlv, hyn, hya⟩
  have HL0 := Lib.hid hL
  have HLV0 := Lib.hid hlv
  have hge := logd_generation hL
  have HGE := Lib.hid hge
  clear hL hlv hge
  go_wp2_with fail
  refine HGE.out.mono ?_
  clear HGE
  rintro e w3 ⟨rfl, rfl⟩
  go_wp2
  go_loopw [6, 8, 9] (fun lv gv iv wr => ∃ k q : Nat, ∃ L : W5.Lg, k ≤ l.length ∧ iv = .int .i64 (k : Int) ∧ lv = .pointer (some ⟨q, 0, none⟩) ∧ gv = .int .u32 (L.gen : Int) ∧ Hid (Logd w1 wr (fun k => k < w1.heap.size) p q L) ∧ Hid (W5.GInv L (1 + 2 * k)) ∧ Hid (L.d.wait.length ≤ 3000 * k)) (fun _ _ iv _ => l.length - (intOf iv).toNat)
  case atStart => exact ⟨0, q, _, by omega, rfl, rfl, rfl, HL0.out, ⟨Nat.le_refl _, .inl ⟨rfl, HLV0.out⟩⟩, by show Y0.wait.length ≤ 0; rw [HLV0.out.wait]; exact Nat.le_refl _⟩
  case round =>
    clear HL0 HLV0
    obtain ⟨k, q, L, hk, rfl, rfl, rfl, hL, hG, hwl⟩ := hrel
    have hXW := Lib.hid (HX1.out.trans hL.out.held.ext)
    by_cases hlt : k < l.length
    · have hlti : (k : Int) < (l.length : Int) := by omega
      obtain ⟨b, off, rfl, hact⟩ := HS.out.at k hlt
      generalize l[k] = x at *
      obtain ⟨kind, xi, xn, size, data, keep, mask⟩ := x
      have hbw : b < w.heap.size := by
        obtain ⟨_, _, g0, _⟩ := hact
        exact World.block_lt_of_cell? w _ g0
      obtain ⟨dv0, kv0, _, _, _, _, g40, g50, _, hbd0, hbk0, _⟩ := id hact
      obtain ⟨dv, kv, g0, g1, g2, g3, g4, g5, g6, hbd, hbk, w1', w2', w3', w4'⟩ := hact.ext hXW.out
      simp only at g0 g1 g2 g3 g4 g5 g6 hbd hbk g50 hbk0 w2'
      have hkv0 : kv0 = kv := Option.some.inj ((Ext.cell hXW.out g50).symm.trans g5)
      have HKX := Lib.hid (show (keep.map Value.bool) = [] ∨ ∀ k, kv.ownBlock = some k → k < w1.heap.size from by
        rw [← hkv0]
        exact (Reads.block_lt5 hbk0).imp id (fun h k hk => Nat.lt_of_lt_of_le (h k hk) HX1.out.size))
      obtain ⟨da, dc, rfl⟩ := hbd.shape
      obtain ⟨ka, kc, hkv⟩ := hbk.shape
      rw [List.length_map] at hkv
      subst hkv
      have HBD := Lib.hid hbd
      have HBK := Lib.hid hbk
      have HW2 := Lib.hid w2'
      have hdl := hbd.length_le
      have hge : L.gen ≤ 81 := by have := hG.out.1; omega
      have hgi : (L.gen : Int) ≤ 81 := by omega
      clear hact hbk w1' w2' w3' w4' g40 g50 hbd0 hbk0 hkv0 hbd
      by_cases k0 : kind = 0
      · subst k0
        have hx0 := Ext.of_alloc wr (.cells #[.int .i64 0, .int .i64 xi, .int .i64 xn, .int .i64 size, .slice da data.length dc, .slice ka keep.length kc, .int .u8 mask] 70)
        go_wp2_with fail
        refine (record_any _ data size _ (HBD.out.ext hx0)).mono ?_
        rintro e w5 ⟨v5, rfl, hown5, hx5⟩
        have hap := append_new hL.out (hx0.trans hx5) v5 (W5.record data size) (Bs.of_own hown5) (fun k hk => .inr ⟨Nat.le_trans hx0.size (hown5.lt k hk).1, (hown5.lt k hk).2⟩) (by have := hwl.out; omega)
        have HAP := Lib.hid hap
        obtain ⟨ga, gb⟩ := W5.ginv_append hG.out (W5.record data size)
        have hww := W5.append_wait L hL.out.ok.n2 (W5.record data size)
        clear hap hown5 hx5 hx0 g0 g1 g2 g3 g4 g5 g6
        go_wp2_with fail
        refine HAP.out.mono ?_
        clear HAP
        rintro e w6 ⟨rfl, hL6, _⟩
        have HL6 := Lib.hid hL6
        have HGA := Lib.hid (ga.le (by omega : 1 + 2 * k ≤ 1 + 2 * (k + 1)))
        have HWW := Lib.hid (show (W5.append L (W5.record data size)).1.d.wait.length ≤ 3000 * (k + 1) by have := hwl.out; omega)
        clear hL6 ga hww hL hG hwl
        generalize (W5.append L (W5.record data size)).1 = L2 at *
        rw [← gb] at hgi ⊢
        clear gb hge
        have hgen := fun (w : World) (h : Logd w1 w (fun k => k < w1.heap.size) p q L2) => logd_generation h
        have HGEN := Lib.hid hgen
        clear hgen
        go_wp2_with fail
        refine (HGEN.out _ HL6.out).mono ?_
        rintro e w9 ⟨rfl, rfl⟩
        go_wp2_with fail
        refine (HGEN.out _ HL6.out).mono ?_
        rintro e w9 ⟨rfl, rfl⟩
        go_wp2
        go_roundw
        case rel => exact ⟨k + 1, q, L2, by omega, by go_num, rfl, rfl, HL6, HGA, HWW⟩
        case measure => (simp [intOf]; try omega)
      · have k0b : (kind == 0) = false := by rw [beq_eq_false_iff_ne]; exact k0
        clear k0
        by_cases k1 : kind = 1
        · subst k1
          have hx0 := Ext.of_alloc wr (.cells #[.int .i64 1, .int .i64 xi, .int .i64 xn, .int .i64 size, .slice da data.length dc, .slice ka keep.length kc, .int .u8 mask] 70)
          have hre := list_any 1 xi xn size mask (.slice da data.length dc) (.slice ka keep.length kc) data _ (HBD.out.ext hx0)
          have HRE := Lib.hid hre
          have hal : (W5.alist data size).length ≤ 12 := by rw [W5.alist_len]; omega
          obtain ⟨ga, gb, gc, gd⟩ := W5.ginv_renew hG.out hL.out.ok (by omega) (W5.alist data size)
          have hww := W5.renew_wait L hL.out.ok.n2 (W5.alist data size)
          clear hre
          go_wp2_with fail
          refine HRE.out.mono ?_
          clear HRE
          rintro e w5 ⟨v5, vs5, rfl, hR5, hx5⟩
          have hrn := renew_new hL.out (hx0.trans hx5) v5 (W5.alist data size) (hR5.rows (fun k h1 h2 => .inr ⟨Nat.le_trans hx0.size h1, h2⟩)) (by omega) (by have := hwl.out; omega)
          have HRN := Lib.hid hrn
          clear hrn hR5 hx5 hx0 g0 g1 g2 g3 g4 g5 g6
          go_wp2_with fail
          refine HRN.out.mono ?_
          clear HRN
          rintro e w6 ⟨rfl, hL6, _⟩
          have HL6 := Lib.hid hL6
          have HGA := Lib.hid (ga.le (by omega : 1 + 2 * k + 1 ≤ 1 + 2 * (k + 1)))
          have HWW := Lib.hid (show (W5.renew L (W5.alist data size)).1.d.wait.length ≤ 3000 * (k + 1) by have := hwl.out; omega)
          clear hL6 ga hww hL hG hwl hal
          generalize W5.renew L (W5.alist data size) = RR at *
          obtain ⟨L2, E2⟩ := RR
          simp only at gb gc gd HL6 HGA HWW ⊢
          by_cases hz : E2 = 0
          · have hg1 := gc hz
            subst hz
            have hgl : (L2.gen : Int) = (L.gen : Int) + 1 := by omega
            have hfl : decide ((L.gen : Int) + 1 < (L.gen : Int)) = false := decide_eq_false (by omega)
            have hgen := logd_generation HL6.out
            have HGE := Lib.hid hgen
            clear hgen gb gc gd hg1
            go_wp2_with fail
            refine HGE.out.mono ?_
            rintro e w9 ⟨rfl, rfl⟩
            rw [hgl]
            have hgen := fun (w : World) (h : Logd w1 w (fun k => k < w1.heap.size) p q L2) => logd_generation h
            have HGEN := Lib.hid hgen
            clear hgen
            go_wp2_with fail
            refine (HGEN.out _ HL6.out).mono ?_
            rintro e w9 ⟨rfl, rfl⟩
            rw [hgl]
            go_wp2_with fail
            refine (HGEN.out _ HL6.out).mono ?_
            rintro e w9 ⟨rfl, rfl⟩
            rw [hgl]
            go_wp2
            go_roundw
            case rel => exact ⟨k + 1, q, L2, by omega, by go_num, rfl, by rw [hgl], HL6, HGA, HWW⟩
            case measure => (simp [intOf]; try omega)
          · have hg1 := gd hz
            have hz0 : (E2 == 0) = false := by rw [beq_eq_false_iff_ne]; exact hz
            rw [← hg1] at hgi ⊢
            clear gb gc gd hz hg1 hge
            have hgen := fun (w : World) (h : Logd w1 w (fun k => k < w1.heap.size) p q L2) => logd_generation h
            have HGEN := Lib.hid hgen
            clear hgen
            go_wp2_with fail
            refine (HGEN.out _ HL6.out).mono ?_
            rintro e w9 ⟨rfl, rfl⟩
            go_wp2_with fail
            refine (HGEN.out _ HL6.out).mono ?_
            rintro e w9 ⟨rfl, rfl⟩
            go_wp2
            go_roundw
            case rel => exact ⟨k + 1, q, L2, by omega, by go_num, rfl, rfl, HL6, HGA, HWW⟩
            case measure => (simp [intOf]; try omega)
        · have k1b : (kind == 1) = false := by rw [beq_eq_false_iff_ne]; exact k1
          clear k1
          by_cases k2 : kind = 2
          · subst k2
            have hx0 := Ext.of_alloc wr (.cells #[.int .i64 2, .int .i64 xi, .int .i64 xn, .int .i64 size, .slice da data.length dc, .slice ka keep.length kc, .int .u8 mask] 70)
            have hrs := held_restart hL.out.held hx0 (.slice ka keep.length kc) keep (HBK.out.ext hx0) (HKX.out.imp (fun h => List.map_eq_nil_iff.1 h) (fun h k hk => .inl (h k hk)))
            have HRS := Lib.hid hrs
            clear hrs
            go_wp2_with fail
            refine HRS.out.mono ?_
            clear HRS
            rintro e w5 ⟨rfl, hst5⟩
            obtain ⟨o1, o2, o3⟩ := W5.ginv_open hG.out keep hst5.1.okd (by omega)
            have hop := open_any hst5.1 (Nat.zero_le _)
            have HOP := Lib.hid hop
            clear hop hst5 hx0 g0 g1 g2 g3 g4 g5 g6
            go_wp2_with fail
            unfold Opened at HOP
            refine HOP.out.mono ?_
            clear HOP
            rintro e w6 (⟨_, q6, rfl, _, hL6, _⟩ | ⟨h9, _⟩)
            · have HL6 := Lib.hid hL6
              have hww : (W5.open_ (D.restart L.d keep)).1.d.wait = [] := by
                rcases o3.2 with ⟨_, hh⟩ | ⟨hh, _⟩
                · exact hh.wait
                · exact absurd hh (by rw [W5.open_live o1]; decide)
              have HGA := Lib.hid (o3.le (by omega : 1 + 2 * k + 2 ≤ 1 + 2 * (k + 1)))
              have HWW := Lib.hid (show (W5.open_ (D.restart L.d keep)).1.d.wait.length ≤ 3000 * (k + 1) by rw [hww]; exact Nat.zero_le _)
              clear hL6 o1 o3 hww hL hG hwl
              generalize (W5.open_ (D.restart L.d keep)).1 = L2 at *
              have hn1 : decide (L2.gen ≤ L.gen) = false := decide_eq_false (by omega)
              have hn2 : decide ((L2.gen : Int) ≤ (L.gen : Int)) = false := decide_eq_false (by omega)
              have hn3 : decide (L2.gen < L.gen) = false := decide_eq_false (by omega)
              have hn4 : decide ((L2.gen : Int) < (L.gen : Int)) = false := decide_eq_false (by omega)
              have hgen := logd_generation HL6.out
              have HGE := Lib.hid hgen
              clear hgen o2
              go_wp2_with fail
              refine HGE.out.mono ?_
              rintro e w9 ⟨rfl, rfl⟩
              have hgen := fun (w : World) (h : Logd w1 w (fun k => k < w1.heap.size) p q6 L2) => logd_generation h
              have HGEN := Lib.hid hgen
              clear hgen
              go_wp2_with fail
              refine (HGEN.out _ HL6.out).mono ?_
              rintro e w9 ⟨rfl, rfl⟩
              go_wp2_with fail
              refine (HGEN.out _ HL6.out).mono ?_
              rintro e w9 ⟨rfl, rfl⟩
              go_wp2
              go_roundw
              case rel => exact ⟨k + 1, q6, L2, by omega, by go_num, rfl, rfl, HL6, HGA, HWW⟩
              case measure => (simp [intOf]; try omega)
            · exact absurd o1 h9
          · have k2b : (kind == 2) = false := by rw [beq_eq_false_iff_ne]; exact k2
            clear k2
            have hwl2 : L.d.wait.length ≤ 3000 * (k + 1) := by have := hwl.out; omega
            have HWL2 := Lib.hid hwl2
            clear hwl2
            by_cases k3 : kind = 3
            · subst k3
              have hx0 := Ext.of_alloc wr (.cells #[.int .i64 3, .int .i64 xi, .int .i64 xn, .int .i64 size, .slice da data.length dc, .slice ka keep.length kc, .int .u8 mask] 70)
              have hfu := logd_fuse (hL.out.after hx0) xn (wf_i64 HW2.out).2
              have HFU := Lib.hid hfu
              clear hfu hx0
              go_wp2_with fail
              refine HFU.out.mono ?_
              clear HFU g0 g1 g2 g3 g4 g5 g6
              rintro e w6 ⟨rfl, hL6, _⟩
              have HL6 := Lib.hid hL6
              have HGA := Lib.hid ((W5.ginv_fuse hG.out xn).le (by omega : 1 + 2 * k ≤ 1 + 2 * (k + 1)))
              have HWW := Lib.hid (show (D.fuse L.d xn).wait.length ≤ 3000 * (k + 1) by
                have e : (D.fuse L.d xn).wait = L.d.wait := by unfold D.fuse; split <;> (try split) <;> rfl
                rw [e]; exact HWL2.out)
              clear hL6 hL hG hwl
              have hgen := fun (w : World) (h : Logd w1 w (fun k => k < w1.heap.size) p q ⟨D.fuse L.d xn, L.gen, L.recs, L.cl⟩) => logd_generation h
              have HGEN := Lib.hid hgen
              clear hgen
              go_wp2_with fail
              refine (HGEN.out _ HL6.out).mono ?_
              rintro e w9 ⟨rfl, rfl⟩
              go_wp2_with fail
              refine (HGEN.out _ HL6.out).mono ?_
              rintro e w9 ⟨rfl, rfl⟩
              go_wp2
              go_roundw
              case rel => exact ⟨k + 1, q, ⟨D.fuse L.d xn, L.gen, L.recs, L.cl⟩, by omega, by go_num, rfl, rfl, HL6, HGA, HWW⟩
              case measure => (simp [intOf]; try omega)
            · have k3b : (kind == 3) = false := by rw [beq_eq_false_iff_ne]; exact k3
              clear k3
              have hx0 := Ext.of_alloc wr (.cells #[.int .i64 kind, .int .i64 xi, .int .i64 xn, .int .i64 size, .slice da data.length dc, .slice ka keep.length kc, .int .u8 mask] 70)
              have HL6 := Lib.hid (hL.out.after hx0)
              have HGA := Lib.hid (hG.out.le (by omega : 1 + 2 * k ≤ 1 + 2 * (k + 1)))
              clear hx0 hL hG hwl
              have hgen := fun (w : World) (h : Logd w1 w (fun k => k < w1.heap.size) p q L) => logd_generation h
              have HGEN := Lib.hid hgen
              clear hgen
              go_wp2_with fail
              refine (HGEN.out _ HL6.out).mono ?_
              rintro e w9 ⟨rfl, rfl⟩
              go_wp2_with fail
              refine (HGEN.out _ HL6.out).mono ?_
              rintro e w9 ⟨rfl, rfl⟩
              go_wp2
              go_roundw
              case rel => exact ⟨k + 1, q, L, by omega, by go_num, rfl, rfl, HL6, HGA, HWL2⟩
              case measure => (simp [intOf]; try omega)
    · have HXF := hXW
      have hk2 : k = l.length := by omega
      subst hk2
      clear hL hG hwl
      go_wp2
      go_ret
      exact ⟨rfl, HXF.out⟩

set_option maxRecDepth 100000 in
theorem walk_walGrows (n : Int) (sv : Value) (l : List Act5) (w : World) (_hn : (Lit.int .i64 n).wf = true) (hs : ActsIn w sv l) :
    Calls Try.prog 8 #[.int .i64 n, sv] w fun e w' => e = .returned (.bool true) ∧ Ext w w' := by
  by_cases h1 : n < 4 ∨ 60 < n
  · obtain ⟨a, cap, rfl, hll⟩ := hs.shape
    have hli : (l.length : Int) ≤ 9223372036854775807 := by omega
    clear hs
    have hbb := fun w => begun_bad n w h1
    have HBB := Lib.hid hbb
    clear hbb
    go_enter Try.func8, Try.ntmps8
    go_wp2_with fail
    refine (awake5 w).mono ?_
    rintro e w1 ⟨rfl, hx1⟩
    have HX1 := Lib.hid hx1
    clear hx1
    go_wp2_with fail
    refine (HBB.out _).mono ?_
    rintro e w2 ⟨rfl, hx2⟩
    have HX2 := Lib.hid (HX1.out.trans hx2)
    clear hx2
    by_cases h3 : n < 4
    · clear h1
      go_wp2
      go_ret
      exact ⟨rfl, HX2.out⟩
    · have h4 : 60 < n := by omega
      clear h1
      have h5 : decide (n < 4) = false := decide_eq_false h3
      clear h3
      go_wp2
      go_ret
      exact ⟨rfl, HX2.out⟩
  · by_cases hl : l.length ≤ 40
    · exact walGrows_core n sv l w hs hl (by omega) (by omega)
    · obtain ⟨a, cap, rfl, hll⟩ := hs.shape
      have hli : (40 : Int) < (l.length : Int) := by omega
      have hbb := fun w => begun_nil n w (by omega) (by omega)
      have HBB := Lib.hid hbb
      have d1 : decide (n < 4) = false := decide_eq_false (by omega)
      have d2 : decide (60 < n) = false := decide_eq_false (by omega)
      clear hs hl hbb h1
      go_enter Try.func8, Try.ntmps8
      go_wp2_with fail
      refine (awake5 w).mono ?_
      rintro e w1 ⟨rfl, hx1⟩
      have HX1 := Lib.hid hx1
      clear hx1
      go_wp2_with fail
      refine (HBB.out _).mono ?_
      rintro e w2 ⟨p, q, Y0, rfl, hL, _, _, _⟩
      have HX2 := Lib.hid (HX1.out.trans hL.held.ext)
      clear hL
      go_wp2
      go_ret
      exact ⟨rfl, HX2.out⟩
end Go.Proofs.Ytmcmocakfhedfaa
