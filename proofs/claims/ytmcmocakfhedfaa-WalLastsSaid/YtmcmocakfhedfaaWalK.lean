/- wal: Renew. (Printed by tools/mkrenew.py.) -/
import Derived.Test.YtmcmocakfhedfaaWalJ
namespace Go.Proofs.Ytmcmocakfhedfaa
open Go.RowKit

namespace W5
def renewI (d : D.Dsk) (gen : Nat) (recs : List (List UInt8)) (x : D.Dsk × Int) (ls : List (List UInt8)) : Lg × Int := if x.2 = 0 then (⟨x.1, gen + 1, ls, false⟩, 0) else (⟨x.1, gen, recs, true⟩, x.2)
def renew (L : Lg) (ls : List (List UInt8)) : Lg × Int :=
  if L.cl = true then (L, 7) else if ls.any (fun b => decide (8192 < b.length)) = true then (L, 2) else if area L.d < used ls then (L, 6) else if L.gen = 4294967295 then (L, 11) else
  renewI L.d L.gen L.recs (begin_ L.d (L.gen + 1) ls) ls
theorem renew_eq (d : D.Dsk) (gen : Nat) (recs : List (List UInt8)) (cl : Bool) (ls : List (List UInt8)) : renew ⟨d, gen, recs, cl⟩ ls =
  if cl = true then (⟨d, gen, recs, cl⟩, 7) else if ls.any (fun b => decide (8192 < b.length)) = true then (⟨d, gen, recs, cl⟩, 2) else if area d < used ls then (⟨d, gen, recs, cl⟩, 6) else if gen = 4294967295 then (⟨d, gen, recs, cl⟩, 11) else
  renewI d gen recs (begin_ d (gen + 1) ls) ls := rfl
theorem begin_n (d : D.Dsk) (gen : Nat) (l : List (List UInt8)) : (begin_ d gen l).1.n = d.n := by
  have hf : ∀ x : D.Dsk, (D.flush x).n = x.n := by
    intro x
    unfold D.flush D.goes
    split <;> (try split) <;> (try split) <;> rfl
  have hb := begTo_n d gen l l.length
  unfold begin_
  split
  · split
    · split
      · simp only; rw [hf, write_n, hf, hb]
      · simp only; rw [write_n, hf, hb]
    · simp only; rw [hf, hb]
  · exact hb
end W5

section
variable {w0 w : World} {X : Nat → Prop} {p q : Nat}
set_option maxRecDepth 100000 in
set_option maxHeartbeats 3200000 in
theorem renew_any {L : W5.Lg} (h : Logd w0 w X p q L) (v : Value) (ls : List (List UInt8)) (hv : RowsX w X v ls) (hll : ls.length ≤ 1000000) (hwl : L.d.wait.length ≤ 1073600000) :
    Calls Try.prog 34 #[.pointer (some ⟨q, 0, none⟩), v] w fun e w' => e = .returned (.int .i64 (W5.renew L ls).2) ∧ Logd w0 w' X p q (W5.renew L ls).1 ∧ Keeps X w w' := by
  obtain ⟨ib, hib, hzb0, hzb1, hzb2⟩ := info_parts info_row5
  obtain ⟨⟨Y, lv, vs, hY⟩, hfit, hlen, hgen⟩ := h
  have hok := hY.held.okd
  have hn1 := hok.n1
  have hn2 := hok.n2
  have hal := W5.area_le L.d hn2
  have HLEN := Lib.hid hlen
  have HY := Lib.hid hY
  have HV := Lib.hid hv
  obtain ⟨_, a, cap, rfl, hcell⟩ := hv.shape
  have HC := Lib.hid hcell
  have hbase : Hid (w0.heap.size ≤ w.heap.size) := hY.held.ext.size
  obtain ⟨d, gen, recs, cl⟩ := L
  simp only at hfit hgen hal hwl HY HLEN hn1 hn2
  have HA := Lib.hid (W5.renew_eq d gen recs cl ls)
  have c0 := hY.at_.c0
  have c1 := hY.at_.c1
  have c4 := hY.at_.c4
  have f4 := hY.at_.fr 4
  simp only at c0 c1 c4
  clear hY hv hok hlen hcell
  go_enter Try.func34, Try.ntmps34
  cases cl
  · rw [if_neg (by decide)] at HA
    go_wp2
    go_loop [5, 17] (fun uv iv => ∃ k : Nat, k ≤ ls.length ∧ iv = .int .i64 (k : Int) ∧ uv = .int .i64 (W5.usedTo ls k : Int) ∧ Hid (∀ b ∈ ls.take k, b.length ≤ 8192) ∧ W5.usedTo ls k ≤ 17 * k) (fun _ iv => ls.length - (intOf iv).toNat)
    case atStart => exact ⟨0, by omega, rfl, rfl, (fun b h => by simp at h), by show 0 ≤ _; omega⟩
    case round =>
      obtain ⟨k, hk, rfl, rfl, hsm, hu17⟩ := hrel
      by_cases hlt : k < ls.length
      · have hlti : (k : Int) < (ls.length : Int) := by omega
        obtain ⟨b, off, rfl, hbX, u, hcu, hbu, huX⟩ := HC.out k hlt
        have hbl := hbu.length_le
        obtain ⟨a', cap', rfl⟩ := hbu.shape
        have hus := W5.usedTo_succ ls k hlt
        have htk : ls.take (k + 1) = ls.take k ++ [ls[k]] := List.take_succ_eq_append_getElem hlt
        have hany : 8192 < ls[k].length → ls.any (fun b => decide (8192 < b.length)) = true := fun h => List.any_eq_true.2 ⟨_, List.getElem_mem hlt, decide_eq_true h⟩
        clear hbu huX
        generalize ls[k] = LB at *
        have hlbi : (LB.length : Int) ≤ 9223372036854775807 := by omega
        by_cases h1 : 8192 < LB.length
        · have h1i : (8192 : Int) < (LB.length : Int) := by omega
          rw [if_pos (hany h1)] at HA
          clear h1 hany hus htk
          go_wp2
          go_ret
          rw [HA.out]
          exact ⟨rfl, ⟨⟨Y, lv, vs, HY.out⟩, hfit, HLEN.out, hgen⟩, Keeps.refl _ _⟩
        · have h1i : decide ((8192 : Int) < (LB.length : Int)) = false := decide_eq_false (by omega)
          have h8 : LB.length ≤ 8192 := by omega
          have hnd := need_17 LB.length h8
          have hne : ∀ w, Calls Try.prog 11 #[.int .i64 (LB.length : Int)] w fun e w' => e = .returned (.int .i64 (W5.need LB.length : Int)) ∧ w = w' := by
            intro w
            refine (need_any (LB.length : Int) w (by omega) (by omega)).mono ?_
            rintro e w1 ⟨rfl, rfl⟩
            rw [W5.need_nat]
            exact ⟨rfl, rfl⟩
          have hsm2 : Hid (∀ b ∈ ls.take (k + 1), b.length ≤ 8192) := by
            intro x hx
            rw [htk] at hx
            rcases List.mem_append.1 hx with hx | hx
            · exact hsm.out x hx
            · obtain rfl := List.mem_singleton.1 hx
              exact h8
          have HUS := Lib.hid hus
          clear h1 hany htk hus
          generalize W5.need LB.length = N at *
          generalize hUK : W5.usedTo ls k = U at *
          have hUi : (U : Int) ≤ 17000000 := by omega
          have hNi : (N : Int) ≤ 17 := by omega
          clear hUK
          go_wp2_with fail
          refine (hne _).mono ?_
          rintro e w5 ⟨rfl, rfl⟩
          go_wp2
          go_round
          case rel => exact ⟨k + 1, by omega, by go_num, by rw [HUS.out]; rfl, hsm2, by rw [HUS.out]; omega⟩
          case measure => (simp [intOf]; try omega)
      · obtain rfl : k = ls.length := by omega
        have hsz : ¬ ls.any (fun b => decide (8192 < b.length)) = true := by
          intro h
          obtain ⟨x, hx, h9⟩ := List.any_eq_true.1 h
          have h8 := hsm.out x (by rw [List.take_length]; exact hx)
          have := of_decide_eq_true h9
          omega
        have HSM := Lib.hid (show ∀ b ∈ ls, b.length ≤ 8192 from fun x hx => hsm.out x (by rw [List.take_length]; exact hx))
        rw [if_neg hsz] at HA
        rw [W5.usedTo_all] at *
        clear hsz hsm
        have hs := held_size HY.out.held
        have har := area_any d.n w (by omega) (by omega)
        rw [W5.area_eq d] at har
        generalize hU : W5.used ls = U at *
        generalize hA : W5.area d = A at *
        have HU := Lib.hid hU
        have HAR := Lib.hid hA
        clear hU hA
        have hUi : (U : Int) ≤ 17000000 := by omega
        have hAi : (A : Int) ≤ 2047 := by omega
        go_wp2_with fail
        refine hs.mono ?_
        rintro e w5 ⟨rfl, rfl⟩
        go_wp2_with fail
        refine har.mono ?_
        rintro e w5 ⟨rfl, rfl⟩
        clear hs har
        by_cases h2 : A < U
        · have h2i : (A : Int) < (U : Int) := by omega
          rw [if_pos h2] at HA
          clear h2
          go_wp2
          go_ret
          rw [HA.out]
          exact ⟨rfl, ⟨⟨Y, lv, vs, HY.out⟩, by simp only; rw [HAR.out]; exact hfit, HLEN.out, hgen⟩, Keeps.refl _ _⟩
        · have h2i : decide ((A : Int) < (U : Int)) = false := decide_eq_false (by omega)
          rw [if_neg h2] at HA
          have H2 := Lib.hid h2
          clear h2
          by_cases h3 : gen = 4294967295
          · rw [if_pos h3] at HA
            subst h3
            go_wp2
            go_ret
            rw [HA.out]
            exact ⟨rfl, ⟨⟨Y, lv, vs, HY.out⟩, by simp only; rw [HAR.out]; exact hfit, HLEN.out, hgen⟩, Keeps.refl _ _⟩
          · have h3i : ((gen : Int) == 4294967295) = false := by rw [beq_eq_false_iff_ne]; omega
            have HG1 := Lib.hid (show gen + 1 < 4294967296 by omega)
            rw [if_neg h3] at HA
            clear h3
            have hbg := begin_any HY.out.held c0 ((HY.out.lf q (.inl rfl)).1) gen c1 HG1.out (.slice a ls.length cap) ls (HV.out.mono HY.out.sub) HSM.out (by rw [HU.out]; have := H2.out; omega) hwl
            have HBG := Lib.hid hbg
            have hbn := W5.begin_n d (gen + 1) ls
            clear hbg c0 c4 f4
            generalize hx : W5.begin_ d (gen + 1) ls = BX at *
            obtain ⟨D1, E1⟩ := BX
            unfold W5.renewI at HA
            simp only at HA hbn
            clear hx
            go_wp2_with fail
            refine HBG.out.mono ?_
            clear HBG
            rintro e w6 ⟨rfl, hst6⟩
            clear c1
            obtain ⟨hY6, hK6⟩ := HY.out.disk hst6
            have HY6 := Lib.hid hY6
            have HK6 := Lib.hid hK6
            have HV6 := Lib.hid (HV.out.keeps hK6)
            have HBA6 := Lib.hid (Nat.le_trans hbase.out hst6.2.size)
            have he : W5.area D1 = A := by rw [← HAR.out]; unfold W5.area; rw [hbn]
            have HE := Lib.hid he
            clear hst6 hY6 hK6 HY he hbase
            by_cases hz : E1 = 0
            · subst hz
              have hg1i : (gen : Int) + 1 < 4294967296 := by have := HG1.out; omega
              rw [if_pos rfl] at HA
              have c1 := HY6.out.at_.c1
              have f1 := HY6.out.at_.fr 1
              have c2 := HY6.out.at_.c2
              have f2 := HY6.out.at_.fr 2
              have c3 := HY6.out.at_.c3
              have f3 := HY6.out.at_.fr 3
              have hL7 := ((HY6.out.at_.set1 (gen + 1)).set2 U).set3
              have hM7 := ((LF.set q lv vs w6 1 (.int .u32 ((gen + 1 : Nat) : Int))).trans (LF.set q lv vs _ 2 (.int .i64 (U : Int))) (fun _ _ h => h)).trans (LF.set q lv vs _ 3 (.slice none 0 0)) (fun _ _ h => h)
              obtain ⟨hY7, hK7⟩ := HY6.out.re hM7 hL7 (LF.nil q lv vs w6)
              rw [show ((gen + 1 : Nat) : Int) = (gen : Int) + 1 from rfl] at hY7 hK7
              have HY7 := Lib.hid hY7
              have HK7 := Lib.hid (HK6.out.trans hK7)
              have HV7 := Lib.hid (HV6.out.keeps hK7)
              clear hY7 hK7 hM7 hL7 HY6 HK6 HV6 HBA6
              go_wp2
              generalize (((w6.setCell ⟨q, 1, none⟩ (.int .u32 ((gen : Int) + 1))).setCell ⟨q, 2, none⟩ (.int .i64 (U : Int))).setCell ⟨q, 3, none⟩ (.slice none 0 0)) = w7 at *
              generalize New Y w6 w7 = Y7 at *
              clear c1 f1 c2 f2 c3 f3
              go_loopw [71] (fun iv wr => ∃ k : Nat, ∃ Yr : Nat → Prop, ∃ lr : Value, ∃ vr : List Value, k ≤ ls.length ∧ iv = .int .i64 (k : Int) ∧ Hid (LogY w0 wr X Yr p q D1 (gen + 1) U lr vr (ls.take k) false) ∧ Hid (Keeps X w wr) ∧ Hid (RowsX wr X (.slice a ls.length cap) ls) ∧ Hid (w0.heap.size ≤ wr.heap.size)) (fun iv _ => ls.length - (intOf iv).toNat)
              case atStart => exact ⟨0, Y7, _, _, by omega, rfl, HY7.out, HK7.out, HV7.out, HY7.out.held.ext.size⟩
              case round =>
                obtain ⟨k, Yr, lr, vr, hk, rfl, hYr, hKr, hVr, hbase⟩ := hrel
                by_cases hlt : k < ls.length
                · have hlti : (k : Int) < (ls.length : Int) := by omega
                  obtain ⟨_, a2, cap2, hsl, hce⟩ := hVr.out.shape
                  obtain ⟨rfl, _, rfl⟩ := Value.slice.inj hsl
                  obtain ⟨b, off, rfl, hbX, u, hcu, hbu, huX⟩ := hce k hlt
                  have hlb := HSM.out ls[k] (List.getElem_mem hlt)
                  have htk : ls.take (k + 1) = ls.take k ++ [ls[k]] := List.take_succ_eq_append_getElem hlt
                  have HTK := Lib.hid htk
                  have htl : (ls.take k).length = k := by rw [List.length_take]; omega
                  have HBU := Lib.hid hbu
                  obtain ⟨a', cap', rfl⟩ := hbu.shape
                  clear hsl hce hbu huX htk
                  generalize ls[k] = LB at *
                  have c3 := hYr.out.at_.c3
                  have hHeld : wr.drew.cell? ⟨q, 3, none⟩ = some lr := Ext.cell (Ext.of_drew wr) c3
                  have HLA := Lib.hid hYr.out.at_
                  go_wp2_with fail
                  refine wp_region_C (fun w' => w'.cell? ⟨q, 3, none⟩ = some lr) 8 (by kernel_rfl) ?_
                  (refine wpAnyC_pure (i := 0) (oi := ⟨some 75, _, _, _, _, _⟩) (v := ?_) rfl (by kernel_rfl) (by kernel_rfl) (by kernel_rfl) (by kernel_rfl) (fun _ _ _ h => h) (Or.inl ⟨by rfl, ?_⟩) hHeld ?_; rotate_left; (focus (intro w; go_simp; first | done | with_reducible rfl)); try simp only [Act.put, List.setIfInBounds_toArray, List.set_cons_zero, List.set_cons_succ])
                  (refine wpAnyC_take [2, 3, 4, 8] (i := 1) (oi := ⟨some 76, _, _, _, _, _⟩) (v := ?_) rfl (by kernel_rfl) (by kernel_rfl) (by kernel_rfl) (by kernel_rfl) (fun _ _ _ h => h) (Or.inl ⟨by rfl, ?_⟩) hHeld ?_; rotate_left; (focus (intro w hSw; (skip); go_simp; first | done | with_reducible rfl)); try simp only [Act.put, List.setIfInBounds_toArray, List.set_cons_zero, List.set_cons_succ])
                  (refine wpAnyC_take [3, 4, 8] (i := 2) (oi := ⟨some 77, _, _, _, _, _⟩) (v := ?_) rfl (by kernel_rfl) (by kernel_rfl) (by kernel_rfl) (by kernel_rfl) (fun _ _ _ h => h) (Or.inl ⟨by rfl, ?_⟩) hHeld ?_; rotate_left; (focus (intro w hSw; (skip); go_simp; first | done | with_reducible rfl)); try simp only [Act.put, List.setIfInBounds_toArray, List.set_cons_zero, List.set_cons_succ])
                  (refine wpAnyC_take [4, 8] (i := 3) (oi := ⟨some 78, _, _, _, _, _⟩) (v := ?_) rfl (by kernel_rfl) (by kernel_rfl) (by kernel_rfl) (by kernel_rfl) (fun _ _ _ h => h) (Or.inl ⟨by rfl, ?_⟩) hHeld ?_; rotate_left; (focus (intro w hSw; (skip); go_simp; first | done | with_reducible rfl)); try simp only [Act.put, List.setIfInBounds_toArray, List.set_cons_zero, List.set_cons_succ])
                  (refine wpAnyC_take [8] (i := 4) (oi := ⟨some 79, _, _, _, _, _⟩) (v := ?_) rfl (by kernel_rfl) (by kernel_rfl) (by kernel_rfl) (by kernel_rfl) (fun _ _ _ h => h) (Or.inl ⟨by rfl, ?_⟩) hHeld ?_; rotate_left; (focus (intro w hSw; (skip); go_simp; first | done | with_reducible rfl)); try simp only [Act.put, List.setIfInBounds_toArray, List.set_cons_zero, List.set_cons_succ])
                  (refine wpAnyC_take [6, 8] (i := 5) (oi := ⟨some 80, _, _, _, _, _⟩) (v := ?_) rfl (by kernel_rfl) (by kernel_rfl) (by kernel_rfl) (by kernel_rfl) (fun _ _ _ h => h) (Or.inl ⟨by rfl, ?_⟩) hHeld ?_; rotate_left; (focus (intro w hSw; (skip); go_simp; first | done | with_reducible rfl)); try simp only [Act.put, List.setIfInBounds_toArray, List.set_cons_zero, List.set_cons_succ])
                  refine wpAnyC_one (i := 6) (oi := ⟨some 81, _, _, _, _, _⟩) rfl (by kernel_rfl) (by decide) (fun K hK => ?_)
                  rw [if_pos (by rfl)]
                  go_simp
                  go_at_call 43
                  refine (clone_any _ LB _ (HBU.out.ext (Ext.of_drew wr)) (by omega)).mono ?_
                  rintro e w6 ⟨u6, rfl, hown6, hx6⟩
                  have hx6' := (Ext.of_drew wr).trans hx6
                  refine hK.out _ _ (Ext.cell hx6' HLA.out.c3) ?_
                  clear hK K
                  try simp only [Act.put, List.setIfInBounds_toArray, List.set_cons_zero, List.set_cons_succ]
                  refine wpAnyC_one (i := 7) (oi := ⟨some 82, _, _, _, _, _⟩) rfl (by kernel_rfl) (by decide) (fun K hK => ?_)
                  rw [if_pos (by rfl)]
                  refine wp_buildSlice rfl (by simp [Act.eval]) (run_buildSlice_one w6 40 31 ib (.slice none 0 0) u6 Try.underlying40 hib hzb0 (by rw [hzb1]; rfl) (by rw [hzb1]; decide) (by rw [hzb1]; decide) (by obtain ⟨ua, uc, rfl⟩ := (Bs.of_own hown6).shape; rw [hzb1]; rfl)) ?_
                  have hx7 := Ext.of_alloc w6 (.cells u6.cells 31)
                  refine hK.out _ _ (Ext.cell hx7 (Ext.cell hx6' HLA.out.c3)) ?_
                  clear hK K
                  try simp only [Act.put, List.setIfInBounds_toArray, List.set_cons_zero, List.set_cons_succ]
                  have hnews : ∀ j u, [u6][j]? = some u → (w6.alloc (.cells u6.cells 31)).cell? ((⟨w6.heap.size, 0, none⟩ : Addr).add j) = some u := by
                    intro j u hj
                    obtain ⟨ua, uc, rfl⟩ := (Bs.of_own hown6).shape
                    rw [Addr.add_lit, World.cell?_alloc_at _ _ _ _ rfl]
                    simpa [Value.cells] using hj
                  have hone : ∀ u ∈ [u6], u.oneCell' = true := by
                    intro u hu
                    obtain rfl := List.mem_singleton.1 hu
                    obtain ⟨ua, uc, rfl⟩ := (Bs.of_own hown6).shape
                    rfl
                  have hrow7 := (HLA.out.ext (hx6'.trans hx7)).rows.row
                  refine wpAnyC_c (oi := ⟨some 83, _, _, _, _, _⟩) rfl (by kernel_rfl) (fun K hK => ?_)
                  rw [if_pos (by rfl)]
                  refine wp_append_lies _ _ _ 40 rfl w0.heap.size 31 ib (.slice none 0 0) 1 24 Try.underlying40 hib hzb0 hzb1 hzb2 (by rfl) (by decide) lr (ls.take k).length vr rfl hrow7 ⟨w6.heap.size, 0, none⟩ 1 1 [u6] rfl rfl hnews hone (by decide) (by unfold maxLen; omega) (by omega) (Nat.le_trans hbase.out (hx6'.trans hx7).size) (w6.heap.size + 1) (by simp) ?_
                  intro g7 cap7 w8 hown8 hgrow8 hat8 hlt8
                  have hnv8 : ∀ k, (Value.slice (some ⟨g7, 0, none⟩) ((ls.take k).length + 1) cap7).ownBlock = some k → lr.ownBlock = some k ∨ wr.heap.size ≤ k := by
                    intro k hk
                    have e : g7 = k := by simpa [Value.ownBlock] using hk
                    subst e
                    rcases hat8 with h | h
                    · exact .inl h
                    · exact .inr (by rw [h]; exact Nat.le_trans hx6'.size (Nat.le_succ _))
                  obtain ⟨d3, d3f, hL8, hM8, hF8⟩ := HLA.out.push (hx6'.trans hx7) (hbase.out) (Nat.le_refl _) (hx7.keptOwn hown6) hown8 hgrow8 hnv8
                  refine hK.out _ _ ?_
                  clear hK K
                  try simp only [Act.put, List.setIfInBounds_toArray, List.set_cons_zero, List.set_cons_succ]
                  (refine wpAny_take (i := 9) (oi := ⟨some 84, _, _, _, _, _⟩) (v := ?_) rfl (by kernel_rfl) (by kernel_rfl) (by kernel_rfl) (fun _ _ _ h => h) (Or.inl ⟨by rfl, ?_⟩) ?_; rotate_left; (focus (intro w; go_simp; first | done | with_reducible rfl)); try simp only [Act.put, List.setIfInBounds_toArray, List.set_cons_zero, List.set_cons_succ])
                  (refine wpAny_take (i := 10) (oi := ⟨some 85, _, _, _, _, _⟩) (v := ?_) rfl (by kernel_rfl) (by kernel_rfl) (by kernel_rfl) (fun _ _ _ h => h) (Or.inl ⟨by rfl, ?_⟩) ?_; rotate_left; (focus (intro w; go_simp; first | done | with_reducible rfl)); try simp only [Act.put, List.setIfInBounds_toArray, List.set_cons_zero, List.set_cons_succ])
                  refine wpAny_one (i := 11) (oi := ⟨none, _, _, _, _, _⟩) rfl (by kernel_rfl) (fun K hK => ?_)
                  rw [if_pos (by rfl)]
                  go_simp
                  refine hK.out _ _ ?_
                  clear hK K
                  try simp only [Act.put, List.setIfInBounds_toArray, List.set_cons_zero, List.set_cons_succ]
                  refine wpAny_done (by kernel_rfl) ?_ _
                  clear d3 d3f hown8 hgrow8 hat8 hlt8 hnews hone hrow7 hx6' hx7 hx6 hown6 c3 hcu
                  obtain ⟨hY8, hK8⟩ := hYr.out.re hM8 hL8 hF8
                  rw [← HTK.out] at hY8
                  simp only [htl] at hY8 hK8 hM8 ⊢
                  have HY8 := Lib.hid hY8
                  have HK8 := Lib.hid (hKr.out.trans hK8)
                  have HV8 := Lib.hid (hVr.out.keeps hK8)
                  have HB8 := Lib.hid (Nat.le_trans hbase.out hM8.size)
                  clear hY8 hK8 hM8 hL8 hF8 hYr hKr hVr hbase HLA hHeld hnv8
                  generalize w8.setCell ⟨q, 3, none⟩ (.slice (some ⟨g7, 0, none⟩) (k + 1) cap7) = wB at *
                  go_wp2
                  go_roundw
                  case rel => exact ⟨k + 1, _, _, _, by omega, by go_num, HY8, HK8, HV8, HB8⟩
                  case measure => (simp [intOf]; try omega)
                · obtain rfl : k = ls.length := by omega
                  have HYF := Lib.hid hYr.out
                  have HKF := Lib.hid hKr.out
                  rw [List.take_length] at HYF
                  clear hYr hKr hVr hbase
                  go_wp2
                  go_ret
                  rw [HA.out]
                  refine ⟨rfl, ⟨⟨Yr, lr, vr, by simp only; rw [HU.out]; exact HYF.out⟩, ?_, HSM.out, HG1.out⟩, HKF.out⟩
                  simp only
                  rw [HE.out, HU.out]
                  have := H2.out
                  omega
            · have hz3 : (E1 != 0) = true := by rw [bne_iff_ne]; exact hz
              have c4 := HY6.out.at_.c4
              have f4 := HY6.out.at_.fr 4
              rw [if_neg hz] at HA
              clear hz
              obtain ⟨hY8, hK8⟩ := HY6.out.re (LF.set q lv vs w6 4 (.bool true)) (HY6.out.at_.set4 true) (fun _ h => .inl h)
              have HY8 := Lib.hid hY8
              have HK8 := Lib.hid (HK6.out.trans hK8)
              clear hY8 hK8 HY6 HK6
              go_wp2
              go_ret
              rw [HA.out]
              refine ⟨rfl, ⟨⟨_, _, vs, HY8.out⟩, ?_, HLEN.out, hgen⟩, HK8.out⟩
              simp only
              rw [HE.out]
              exact hfit
  · rw [if_pos rfl] at HA
    go_wp2
    go_ret
    rw [HA.out]
    exact ⟨rfl, ⟨⟨Y, lv, vs, HY.out⟩, hfit, HLEN.out, hgen⟩, Keeps.refl _ _⟩
end
end Go.Proofs.Ytmcmocakfhedfaa
