/- The walk of WalTurned. (Printed by tools/mkwturned.py.) -/
import Derived.Test.YtmcmocakfhedfaaWFull
import Derived.Test.YtmcmocakfhedfaaWalV
namespace Go.Proofs.Ytmcmocakfhedfaa
open Go.RowKit

/-- What the loop has found of the record 'which'. -/
def Found (which : Int) (recs want : List (List UInt8)) (bv : Int) : Prop :=
  (bv = -1 ∧ want = recs ∧ ¬ (0 ≤ which ∧ which < recs.length)) ∨ ∃ wh : Nat, which = (wh : Int) ∧ wh < recs.length ∧ bv = ((31 + W5.usedTo recs wh : Nat) : Int) ∧ want = recs.take wh
theorem Found.here {which : Int} {recs want : List (List UInt8)} {bv : Int} {B : List UInt8} (h : Found which recs want bv) (e : which = (recs.length : Int)) : want = recs ∧ Found which (recs ++ [B]) want ((31 + W5.used recs : Nat) : Int) := by
  rcases h with ⟨_, rfl, _⟩ | ⟨wh, h1, h2, _, _⟩
  · refine ⟨rfl, .inr ⟨want.length, e, by simp, ?_, ?_⟩⟩
    · rw [W5.usedTo_snoc _ _ _ (Nat.le_refl _), W5.usedTo_all]
    · rw [List.take_append_of_le_length (Nat.le_refl _), List.take_length]
  · omega
theorem Found.not {which : Int} {recs want : List (List UInt8)} {bv : Int} {B : List UInt8} (h : Found which recs want bv) (e : ¬ (recs.length : Int) = which) : (bv < 0 ∧ want = recs ∧ Found which (recs ++ [B]) (recs ++ [B]) bv) ∨ (¬ bv < 0 ∧ Found which (recs ++ [B]) want bv) := by
  rcases h with ⟨rfl, rfl, h3⟩ | ⟨wh, h1, h2, rfl, rfl⟩
  · refine .inl ⟨by decide, rfl, .inl ⟨rfl, rfl, ?_⟩⟩
    rw [List.length_append]; simp; simp at h3; omega
  · refine .inr ⟨by omega, .inr ⟨wh, h1, by rw [List.length_append]; omega, ?_, ?_⟩⟩
    · rw [W5.usedTo_snoc _ _ _ (by omega)]
    · rw [List.take_append_of_le_length (by omega)]

theorem rec1500 {S : Int} (v : Value) (data : List UInt8) (w : World) (h : Bs w v data) (hS : S ≤ 1500) : Calls Try.prog 16 #[v, .int .i64 S] w fun e w' => ∃ B : List UInt8, B.length ≤ 1500 ∧ MadeB w w' B e :=
  (record_any v data S w h).mono fun _ _ hm => ⟨_, by rw [W5.record_len]; unfold W5.recN; omega, hm⟩

set_option maxRecDepth 100000 in
set_option maxHeartbeats 6400000 in
theorem walTurned_core (sv : Value) (l : List Int) (which at_ mask : Int) (w : World) (hs : Reads w sv (l.map intVal)) (hl : l.length ≤ 12) (a1 : -9223372036854775808 ≤ at_) (a2 : at_ ≤ 9223372036854775807) (m1 : 0 ≤ mask) (m2 : mask < 256) :
    Calls Try.prog 5 #[sv, .int .i64 which, .int .i64 at_, .int .u8 mask] w fun e w' => e = .returned (.bool true) ∧ Ext w w' := by
  obtain ⟨i0, hi0, hz0, hz1, hz2⟩ := info_parts info_str
  obtain ⟨a, cap, rfl⟩ := hs.shape
  rw [List.length_map]
  have HS := Lib.hid hs
  have hli : (l.length : Int) ≤ 12 := by omega
  clear hs
  go_enter Try.func5, Try.ntmps5
  go_wp2_with fail
  refine (awake5 w).mono ?_
  rintro e w1 ⟨rfl, hx1⟩
  have HX1 := Lib.hid hx1
  clear hx1
  go_wp2_with fail
  refine (begun_nil 60 w1 (by decide) (by decide)).mono ?_
  rintro e w2 ⟨p, q, Y0, rfl, hL, hlv, hyn, hya⟩
  have HL0 := Lib.hid hL
  have HLV0 := Lib.hid hlv
  have hA0 : W5.area Y0 = 29 := by unfold W5.area; rw [hyn]; rfl
  clear hL hlv
  go_wp2
  go_loopw [12, 13, 14, 15, 16] (fun wv pv bv kv iv wr => ∃ k : Nat, ∃ recs want : List (List UInt8), ∃ bi : Int, ∃ X : Nat → Prop, ∃ Y : D.Dsk, k ≤ l.length ∧ iv = .int .i64 (k : Int) ∧ pv = .int .i64 ((31 + W5.used recs : Nat) : Int) ∧ bv = .int .i64 bi ∧ kv = .int .i64 (recs.length : Int) ∧ recs.length ≤ k ∧ want.length ≤ recs.length ∧ Hid (Found which recs want bi) ∧ Hid (wr.ownsRow w1.heap.size 9 1 wv want.length (want.map strV)) ∧ Hid (∀ b, wv.ownBlock = some b → X b) ∧ Hid (Logd w1 wr X p q ⟨Y, 1, recs, false⟩) ∧ Hid (W5.Live Y 1 recs) ∧ Hid (Y.n = 60 ∧ Y.armed = false ∧ W5.area Y = 29)) (fun _ _ _ _ iv _ => l.length - (intOf iv).toNat)
  case atStart => exact ⟨0, [], [], -1, _, Y0, by omega, rfl, rfl, rfl, rfl, by decide, by decide, .inl ⟨rfl, rfl, by simp⟩, World.ownsRow_nil _ _ _ _, (fun b h => by simp [Value.ownBlock] at h), HL0.out, HLV0.out, hyn, hya, hA0⟩
  case round =>
    obtain ⟨k, recs, want, bi, X, Y, hk, rfl, rfl, rfl, rfl, hrk, hwl, hfo, hown, hwX, hL, hlv, hY⟩ := hrel
    obtain ⟨hyn', hya', hyA⟩ := hY.out
    have huA : W5.used recs ≤ 29 := by rw [← hyA]; exact hL.out.fit
    have HYA := Lib.hid hyA
    have HYN := Lib.hid hyn'
    have HYM := Lib.hid hya'
    clear hY hyA hyn' hya'
    by_cases hlt : k < l.length
    · have hlti : (k : Int) < (l.length : Int) := by omega
      obtain ⟨b, off, rfl, hcell⟩ := HS.out.at k (by rw [List.length_map]; exact hlt)
      rw [List.getElem_map] at hcell
      unfold intVal at hcell
      have hxw : Ext w wr := HX1.out.trans hL.out.held.ext
      have hcell2 := Ext.cell hxw hcell
      generalize l[k] = S at *
      have hb0 := two_bytes wr k 9 (by omega)
      have hx0 := Ext.of_alloc wr (.cells #[.int .u8 (k : Int), .int .u8 9] 5)
      have hki : (k : Int) < 256 := by omega
      have hcell3 := Ext.cell hx0 hcell2
      clear hcell hxw
      go_wp2_with fail
      all_goals
        refine (rec1500 _ _ _ hb0 (by omega)).mono ?_
        rintro e w3 ⟨B, hrn, v3, rfl, hown3, hx3⟩
        have HX3 := Lib.hid (hx0.trans hx3)
        have HL3 := Lib.hid (hL.out.all HX3.out)
        have HO3 := Lib.hid hown3
        have hap := append_any HL3.out v3 B (Bs.of_own hown3) (fun k hk => .inr ⟨Nat.le_trans hx0.size (hown3.lt k hk).1, (hown3.lt k hk).2⟩) (by simp only; rw [hlv.out.wait]; exact Nat.zero_le _)
        have HAP := Lib.hid hap
        have HWX := Lib.hid (show ∀ b, u12.ownBlock = some b → New X wr w3 b from fun b hb => .inl (hwX.out b hb))
        have HOW := Lib.hid (HX3.out.keptOwn hown.out)
        have HVX := Lib.hid (show ∀ b, v3.ownBlock = some b → New X wr w3 b from fun k hk => .inr ⟨Nat.le_trans hx0.size (hown3.lt k hk).1, (hown3.lt k hk).2⟩)
        obtain ⟨va, vc, rfl⟩ := (Bs.of_own hown3).shape
        clear hap hx3 hx0 hb0 hown3 hown hwX hL
        generalize New X wr w3 = X2 at *
        have hall := W5.append_law hlv.out B
        go_wp2_with fail
        refine HAP.out.mono ?_
        clear HAP
        rintro e w4 ⟨rfl, hL4, hK4⟩
        have HOW4 := Lib.hid (hK4.own HOW.out HWX.out)
        have HB4 := Lib.hid (hK4.bs (Bs.of_own HO3.out) HVX.out)
        have HL4 := Lib.hid hL4
        clear hL4 hK4 HO3 HOW HL3
        have hBi : (B.length : Int) ≤ 1500 := by omega
        rcases hall with ⟨q1, q2⟩ | ⟨q1, Y2, q2, q3, q4, q5⟩ | ⟨_, q2, _⟩
        · rw [q1] at HL4
          generalize (W5.append ⟨Y, 1, recs, false⟩ B).2 = E at *
          have hE : (E != 0) = true := by rw [bne_iff_ne]; rcases q2 with rfl | rfl <;> decide
          clear q1 q2
          go_wp2
          go_roundw
          case rel => exact ⟨k + 1, recs, want, bi, X2, Y, by omega, by go_num, rfl, rfl, rfl, by omega, hwl, hfo, HOW4, HWX, HL4, hlv, HYN.out, HYM.out, HYA.out⟩
          case measure => (simp [intOf]; try omega)
        · rw [q2] at HL4
          rw [q1]
          have HU2 : Hid (W5.used (recs ++ [B]) = W5.used recs + W5.need B.length) := W5.used_snoc _ _
          have HLV2 := Lib.hid q3
          have HN2 := Lib.hid q4
          have HM2 := Lib.hid (q5.trans HYM.out)
          have hnd := need_17 B.length (by omega)
          have hne : ∀ w, Calls Try.prog 11 #[.int .i64 (B.length : Int)] w fun e w' => e = .returned (.int .i64 (W5.need B.length : Int)) ∧ w = w' := by
            intro w
            refine (need_any (B.length : Int) w (by omega) (by omega)).mono ?_
            rintro e w1 ⟨rfl, rfl⟩
            rw [W5.need_nat]
            exact ⟨rfl, rfl⟩
          have HNE := Lib.hid hne
          have HLL := Lib.hid (show (recs ++ [B]).length = recs.length + 1 by rw [List.length_append]; rfl)
          clear hne q1 q2 q3 q4 q5
          by_cases hw : (recs.length : Int) = which
          · obtain ⟨rfl, hf2⟩ := Found.here (B := B) hfo.out hw.symm
            have HF2 := Lib.hid hf2
            have hwb : ((want.length : Int) == which) = true := by rw [beq_iff_eq]; exact hw
            subst hw
            have hpn : decide (((31 + W5.used want : Nat) : Int) < 0) = false := decide_eq_false (by omega)
            clear hf2 hfo
            generalize W5.used want = U at *
            generalize W5.need B.length = N at *
            generalize hP : 31 + U = P at *
            have hPi : (P : Int) ≤ 60 := by omega
            go_wp2_with fail
            refine (HNE.out _).mono ?_
            rintro e w5 ⟨rfl, rfl⟩
            have hNi : (N : Int) ≤ 17 := by omega
            have HF3 : Hid (Found (want.length : Int) (want ++ [B]) want (31 + (U : Int))) := by
              have := HF2.out
              rw [← hP, Int.natCast_add] at this
              exact this
            go_wp2
            go_roundw
            case rel => exact ⟨k + 1, want ++ [B], want, _, X2, Y2, by omega, by go_num, by rw [HU2.out, ← Nat.add_assoc, hP]; go_num, rfl, by rw [HLL.out]; go_num, by rw [HLL.out]; omega, by rw [HLL.out]; omega, HF3, HOW4, HWX, HL4, HLV2, HN2.out.trans HYN.out, HM2.out, (W5.area_same HN2.out).trans HYA.out⟩
            case measure => (simp [intOf]; try omega)
          · have hwb : ((recs.length : Int) == which) = false := by rw [beq_eq_false_iff_ne]; exact hw
            rcases Found.not (B := B) hfo.out hw with ⟨f1, rfl, f2⟩ | ⟨f1, f2⟩
            · have HF2 := Lib.hid f2
              have cv := HB4.out.toString (P := Try.prog) 31 9 5 Try.underlying31 Try.underlying5 Try.underlying9
              have hxa := Ext.of_alloc w4 (.cells #[strV B] 9)
              have HROW := Lib.hid (hxa.keptOwn HOW4.out)
              have hnews : ∀ j u, [strV B][j]? = some u → (w4.alloc (.cells #[strV B] 9)).cell? ((⟨w4.heap.size, 0, none⟩ : Addr).add j) = some u := by
                intro j u hj
                rw [Addr.add_lit, World.cell?_alloc_at _ _ _ _ rfl]
                simpa using hj
              have HNEWS := Lib.hid hnews
              have hbse := Lib.hid (Nat.le_trans HL4.out.held.ext.size hxa.size)
              clear hnews f2 hfo hw
              generalize W5.used want = U at *
              generalize W5.need B.length = N at *
              generalize hP : 31 + U = P at *
              have hPi : (P : Int) ≤ 60 := by omega
              go_wp2_with (first
                | (at_builtin; refine wpList_append_lies _ rfl _ _ 30 rfl w1.heap.size 9 i0 (.string ⟨#[]⟩) 1 16 Try.underlying30 hi0 hz0 hz1 hz2 (by rfl) (by decide) u12 want.length (want.map strV) (by rfl) HROW.out ⟨w4.heap.size, 0, none⟩ 1 1 [strV B] (by rfl) rfl HNEWS.out (by simp [strV, Value.oneCell']) (by decide) (by unfold maxLen; omega) (by omega) hbse.out (w4.heap.size + 1) (by simp) ?_; intro g7 cap7 w5 hown5 hgrow5 hat5 hlt5)
                | fail)
              have hm5 : Mod (fun k => u12.ownBlock = some k) w4 w5 := (Mod.of_ext hxa).trans (Mod.grown hgrow5 (fun k e _ => e)) (fun _ _ h => h)
              have HL5 := Lib.hid (HL4.out.mod_in hm5 (fun k hk => ⟨HWX.out k hk, (HOW4.out.lt k hk).1⟩))
              have HWX5 := Lib.hid (show ∀ b, (Value.slice (some ⟨g7, 0, none⟩) (want.length + 1) cap7).ownBlock = some b → New X2 w4 w5 b from by
                intro b hb
                have e : g7 = b := by simpa [Value.ownBlock] using hb
                subst e
                rcases hat5 with h | h
                · exact .inl (HWX.out _ h)
                · exact .inr ⟨by omega, hlt5⟩)
              have HO5 := Lib.hid (show w5.ownsRow w1.heap.size 9 1 (.slice (some ⟨g7, 0, none⟩) (want.length + 1) cap7) (want ++ [B]).length ((want ++ [B]).map strV) by rw [List.length_append, List.map_append]; exact hown5)
              clear hm5 hown5 hgrow5 hat5 hlt5 cv HROW HNEWS hxa HOW4 HB4 HL4
              refine (HNE.out _).mono ?_
              rintro e w6 ⟨rfl, rfl⟩
              have hNi : (N : Int) ≤ 17 := by omega
              go_wp2
              go_roundw
              case rel => exact ⟨k + 1, want ++ [B], want ++ [B], bi, _, Y2, by omega, by go_num, by rw [HU2.out, ← Nat.add_assoc, hP]; go_num, rfl, by rw [HLL.out]; go_num, by rw [HLL.out]; omega, Nat.le_refl _, HF2, HO5, HWX5, HL5, HLV2, HN2.out.trans HYN.out, HM2.out, (W5.area_same HN2.out).trans HYA.out⟩
              case measure => (simp [intOf]; try omega)
            · have HF2 := Lib.hid f2
              have hbn : decide (bi < 0) = false := decide_eq_false f1
              clear f1 f2 hfo hw
              generalize W5.used recs = U at *
              generalize W5.need B.length = N at *
              generalize hP : 31 + U = P at *
              have hPi : (P : Int) ≤ 60 := by omega
              go_wp2_with fail
              refine (HNE.out _).mono ?_
              rintro e w5 ⟨rfl, rfl⟩
              have hNi : (N : Int) ≤ 17 := by omega
              go_wp2
              go_roundw
              case rel => exact ⟨k + 1, recs ++ [B], want, bi, X2, Y2, by omega, by go_num, by rw [HU2.out, ← Nat.add_assoc, hP]; go_num, rfl, by rw [HLL.out]; go_num, by rw [HLL.out]; omega, by rw [HLL.out]; omega, HF2, HOW4, HWX, HL4, HLV2, HN2.out.trans HYN.out, HM2.out, (W5.area_same HN2.out).trans HYA.out⟩
              case measure => (simp [intOf]; try omega)
        · rw [HYM.out] at q2; cases q2
    · obtain rfl : k = l.length := by omega
      have hXW := Lib.hid (HX1.out.trans hL.out.held.ext)
      by_cases c1 : bi < 0
      · clear hfo hown hwX hL
        go_wp2
        go_ret
        exact ⟨rfl, hXW.out⟩
      · have d1 : decide (bi < 0) = false := decide_eq_false c1
        by_cases c2 : at_ < 0
        · clear hfo hown hwX hL c1
          go_wp2
          go_ret
          exact ⟨rfl, hXW.out⟩
        · have d2 : decide (at_ < 0) = false := decide_eq_false c2
          by_cases c3 : 512 ≤ at_
          · clear hfo hown hwX hL c1 c2
            go_wp2
            go_ret
            exact ⟨rfl, hXW.out⟩
          · have d3 : decide (512 ≤ at_) = false := decide_eq_false c3
            by_cases c4 : mask = 0
            · subst c4
              clear hfo hown hwX hL c1 c2 c3
              go_wp2
              go_ret
              exact ⟨rfl, hXW.out⟩
            · have d4 : (mask == 0) = false := by rw [beq_eq_false_iff_ne]; exact c4
              obtain ⟨j, hj⟩ : ∃ j : Nat, at_ = (j : Int) := ⟨at_.toNat, by omega⟩
              subst hj
              have hj512 : j < 512 := by omega
              have hj5i : (j : Int) < 512 := by omega
              rcases hfo.out with ⟨h9, _⟩ | ⟨wh, _, hwh, rfl, rfl⟩
              · omega
              · have hul := W5.usedTo_lt recs wh 0 hwh (W5.need_pos _)
                have hat : W5.areaAt Y 1 = 31 := by unfold W5.areaAt; rw [HYA.out]
                have hs0 := hlv.out.pc wh hwh 0 (W5.need_pos _)
                rw [hat, Nat.add_zero] at hs0
                generalize hI : 31 + W5.usedTo recs wh = I at *
                have hI60 : I < 60 := by omega
                have hIi : (I : Int) < 60 := by omega
                have hse := held_sec hL.out.held hlv.out.down (I : Int) (by omega) (by rw [HYN.out]; exact hIi)
                have HSE := Lib.hid hse
                have HS0 := Lib.hid hs0
                have H4 := Lib.hid c4
                clear hse hs0 hfo c1 c2 c3 c4
                go_wp2_with fail
                refine HSE.out.mono ?_
                clear HSE
                rintro e w3 ⟨b, cap3, rfl, hcap3, hcapm3, hb3, hbs3, hown3, hx3, _⟩
                have hsl := sector_len hL.out.ok (I : Int)
                obtain ⟨s, hs⟩ : ∃ s, s = D.sector Y (I : Int) := ⟨_, rfl⟩
                rw [← hs] at hown3 hsl HS0
                have hjs : j < s.length := by rw [hsl]; exact hj512
                have hcell := hown3.cellAt j (by omega)
                rw [List.getElem?_map, List.getElem?_eq_getElem hjs] at hcell
                simp only [Option.map_some] at hcell
                unfold byteVal at hcell
                have hfro := hown3.frozenAt j
                have hxr := xor_u8 s[j] mask m1 m2
                have hyn9 : s[j] ^^^ UInt8.ofNat mask.toNat ≠ s[j] := xor_ne s[j] mask (by have := H4.out; omega) m2
                obtain ⟨y, hy⟩ : ∃ y, y = s[j] ^^^ UInt8.ofNat mask.toNat := ⟨_, rfl⟩
                rw [← hy] at hxr hyn9
                have hst := (hown3.stored j (byteVal y)).1
                rw [← List.map_set] at hst
                unfold byteVal at hst
                have hsil : W5.tells (s.set j y) = false := W5.turned_silent hsl (by rw [HS0.out]; exact W5.sealed_self _ (W5.pieceB_len _ _ _ _)) j hjs y hyn9
                have HSIL := Lib.hid hsil
                have HST := Lib.hid hst
                have hHn := (hL.out.held.all hx3).mod_all (F := fun k => k = b) (Mod.setCell w3 ⟨b, j, none⟩ (.int .u8 (y.toNat : Int)) rfl) (fun k hk => by subst hk; exact ⟨.inr ⟨hb3, (hown3.lt _ rfl).2⟩, Nat.le_trans hL.out.held.ext.size hb3⟩)
                have hOW := ownsRow_mod (F := fun k => k = b) (hx3.keptOwn hown.out) (Mod.setCell w3 ⟨b, j, none⟩ (.int .u8 (y.toNat : Int)) rfl) (fun k hk e => by
                  have := (hown.out.lt k hk).2
                  rw [e] at this
                  omega)
                have HHN := Lib.hid hHn
                have HOW := Lib.hid hOW
                have hXB : ∀ k, (Value.slice (some ⟨b, 0, none⟩) 512 cap3).ownBlock = some k → New (New X wr w3) w3 (w3.setCell ⟨b, j, none⟩ (.int .u8 (y.toNat : Int))) k := by
                  intro k hk
                  have e : b = k := by simpa [Value.ownBlock] using hk
                  subst e
                  exact .inl (.inr ⟨hb3, (hown3.lt _ rfl).2⟩)
                have HXB := Lib.hid hXB
                have HXO := Lib.hid (show ∀ b', u12.ownBlock = some b' → New (New X wr w3) w3 (w3.setCell ⟨b, j, none⟩ (.int .u8 (y.toNat : Int))) b' from fun k hk => .inl (.inl (hwX.out k hk)))
                have hcpi : ¬ cap3 ≤ j := by omega
                clear hst hHn hOW hXB hown3 hbs3 hx3 hown hwX hsil hyn9 hy
                obtain ⟨z, hz⟩ : ∃ z : Int, z = (s[j].toNat : Int) := ⟨_, rfl⟩
                rw [← hz] at hcell hxr
                obtain ⟨y2, hy2⟩ : ∃ y2 : Int, y2 = (y.toNat : Int) := ⟨_, rfl⟩
                rw [← hy2] at hxr HST HHN HOW HXB HXO
                clear hz hy2
                have hslen := Lib.hid hsl
                have hsY := Lib.hid hs
                clear hsl hs
                go_wp2_with fail
                refine (held_write_X HHN.out (I : Int) _ (s.set j y) (Bs.of_own (l := s.set j y) HST.out) HXB.out (by rw [hlv.out.wait]; exact Nat.zero_le _)).mono ?_
                have hSl : (s.set j y).length = 512 := by rw [List.length_set]; exact hslen.out
                obtain ⟨e1, e2, n1, n2, n3, n4, n5⟩ := W5.write_flush hlv.out.wait hlv.out.down HYM.out I (by rw [HYN.out]; exact hIi) (s.set j y) hSl
                rintro e w4 ⟨rfl, hst4⟩
                rw [e1]
                have HST4 := Lib.hid hst4
                have HN := Lib.hid (And.intro n1 (And.intro n2 (And.intro n3 (And.intro n4 n5))))
                have hfl := held_flush hst4.1
                have HFL := Lib.hid hfl
                clear hfl hst4 e1 n1 n2 n3 n4 n5 HHN HST hcell hfro
                go_wp2_with fail
                refine HFL.out.mono ?_
                clear HFL
                rintro e w5 ⟨rfl, hst5⟩
                rw [e2]
                have HOW5 := Lib.hid ((HST4.out.2.trans hst5.2).own HOW.out HXO.out)
                generalize D.flush (D.write Y (I : Int) (s.set j y)) = R at *
                obtain ⟨n1, n2, n3, n4, n5⟩ := HN.out
                have hokR := hst5.1.okd
                have hsp : ∀ i : Nat, D.sector R (i : Int) = if i = W5.areaAt Y 1 + W5.usedTo recs wh then s.set j y else D.sector Y (i : Int) := by
                  intro i
                  rw [n5 i, hat, hI]
                obtain ⟨t1, t2, t3, t4⟩ := W5.turned_law hlv.out hokR n1 hwh HSIL.out hsp
                have hol := W5.open_law (d := R) (by rw [n1]; exact hlv.out.n4) n3 n2 hokR (B := 1) (by decide) t3
                have hop := open_any hst5.1 (by rw [n2]; exact Nat.zero_le _)
                rw [t1] at hol
                have HOP := Lib.hid hop
                have HOL := Lib.hid hol
                clear hop hol hst5 e2 hsp n5 hokR t1 t2 t3 t4
                have hwl9 : (recs.take wh).length ≤ 12 := by rw [List.length_take]; omega
                go_wp2_with fail
                unfold Opened at HOP
                refine HOP.out.mono ?_
                clear HOP
                rintro e w6 (⟨h9, q5, rfl, hq5, hL5, hK5⟩ | ⟨h9, _⟩)
                · rcases HOL.out with ⟨_, Z, N, e2, _, _, _, _, _, _⟩ | ⟨h8, _⟩
                  · rw [e2] at hL5
                    have HL5 := Lib.hid hL5
                    have HOW6 := Lib.hid (hK5.own HOW5.out HXO.out)
                    have hre := records_any hL5
                    have HRE := Lib.hid hre
                    clear hL5 hK5 h9 hre HOL e2 hlv
                    go_wp2_with fail
                    refine HRE.out.mono ?_
                    clear HRE
                    rintro e w7 ⟨v7, vs7, rfl, hR7, hx7⟩
                    have hte := texts_any v7 _ w7 (hR7.rows (X := fun _ => True) (fun _ _ _ => trivial)) (by omega)
                    have HTE := Lib.hid hte
                    have HX7 := Lib.hid hx7
                    clear hte hR7 hx7
                    go_wp2_with fail
                    refine HTE.out.mono ?_
                    clear HTE
                    rintro e w8 ⟨v8, rfl, hown8, hx8⟩
                    have HX8 := Lib.hid (HX7.out.trans hx8)
                    have hsa := same_any v8 u12 _ (recs.take wh) w8 (Reads.of_own hown8 (str_ones _)) (Reads.of_own (HX8.out.keptOwn HOW6.out) (str_ones _))
                    simp only [decide_true] at hsa
                    have HSA := Lib.hid hsa
                    have HXF := Lib.hid ((HX1.out.trans HL5.out.held.ext).trans HX8.out)
                    clear hsa hown8 hx8
                    go_wp2_with fail
                    refine HSA.out.mono ?_
                    clear HSA
                    rintro e w9 ⟨rfl, hx9⟩
                    have HXG := Lib.hid (HXF.out.trans hx9)
                    clear hx9
                    go_wp2
                    go_ret
                    exact ⟨rfl, HXG.out⟩
                  · exact absurd h9 (by rw [h8]; decide)
                · rcases HOL.out with ⟨h8, _⟩ | ⟨_, h8, _⟩
                  · exact absurd h8 h9
                  · rw [n4] at h8; cases h8

set_option maxRecDepth 100000 in
theorem walk_walTurned (sv : Value) (l : List Int) (which at_ mask : Int) (w : World) (hs0 : Reads w sv (l.map intVal) ∧ ∀ x ∈ l, (Lit.int .i64 x).wf = true) (_h1 : (Lit.int .i64 which).wf = true) (h2 : (Lit.int .i64 at_).wf = true) (h3 : (Lit.int .u8 mask).wf = true) :
    Calls Try.prog 5 #[sv, .int .i64 which, .int .i64 at_, .int .u8 mask] w fun e w' => e = .returned (.bool true) ∧ Ext w w' := by
  obtain ⟨hs, _⟩ := hs0
  obtain ⟨a1, a2⟩ := wf_i64 h2
  obtain ⟨m1, m2⟩ := wf_u8 h3
  by_cases hl : l.length ≤ 12
  · exact walTurned_core sv l which at_ mask w hs hl a1 a2 m1 m2
  · obtain ⟨a, cap, rfl⟩ := hs.shape
    rw [List.length_map]
    have hli : (12 : Int) < (l.length : Int) := by omega
    clear hs hl
    go_enter Try.func5, Try.ntmps5
    go_wp2_with fail
    refine (awake5 w).mono ?_
    rintro e w1 ⟨rfl, hx1⟩
    have HX1 := Lib.hid hx1
    clear hx1
    go_wp2
    go_ret
    exact ⟨rfl, HX1.out⟩
end Go.Proofs.Ytmcmocakfhedfaa
