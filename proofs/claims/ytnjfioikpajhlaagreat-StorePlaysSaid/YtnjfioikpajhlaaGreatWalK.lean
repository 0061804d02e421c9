import Derived.Test.YtnjfioikpajhlaaGreatWalJ
set_option maxRecDepth 100000
set_option maxHeartbeats 64000000
/- Several texts in one (WalK, WalL, WalM). -/
namespace Go.Proofs.YtnjfioikpajhlaaGreat
open Go.RowKit
namespace W5
def renewI (_d : D.Dsk) (gen : Nat) (recs : List (List UInt8)) (x : D.Dsk × Int) (ls : List (List UInt8)) : Lg × Int := if x.2 = 0 then (⟨x.1, gen + 1, ls, false⟩, 0) else (⟨x.1, gen, recs, true⟩, x.2)
def renew (L : Lg) (ls : List (List UInt8)) : Lg × Int :=
 if L.cl = true then (L, 7) else if ls.any (fun b => decide (8192 < b.length)) = true then (L, 2) else if area L.d < used ls then (L, 6) else if L.gen = 4294967295 then (L, 11) else
 renewI L.d L.gen L.recs (begin_ L.d (L.gen + 1) ls) ls
theorem renew_eq (d : D.Dsk) (gen : Nat) (recs : List (List UInt8)) (cl : Bool) (ls : List (List UInt8)) : renew ⟨d, gen, recs, cl⟩ ls =
 if cl = true then (⟨d, gen, recs, cl⟩, 7) else if ls.any (fun b => decide (8192 < b.length)) = true then (⟨d, gen, recs, cl⟩, 2) else if area d < used ls then (⟨d, gen, recs, cl⟩, 6) else if gen = 4294967295 then (⟨d, gen, recs, cl⟩, 11) else
 renewI d gen recs (begin_ d (gen + 1) ls) ls := rfl
theorem begin_n (d : D.Dsk) (gen : Nat) (l : List (List UInt8)) : (begin_ d gen l).1.n = d.n := by
 have hf : ∀ x : D.Dsk, (D.flush x).n = x.n := by
  intro x
  unfold D.flush D.goes
  split <;> (try split) <;> (try split) <;> rfl
 have hb := begTo_n d gen l l.length
 unfold begin_
 split
 ·split
  ·split
   ·simp only; rw [hf, write_n, hf, hb]
   ·simp only; rw [write_n, hf, hb]
  ·simp only; rw [hf, hb]
 ·exact hb
end W5
section
variable {w0 w : World} {X : Nat -> Prop} {p q : Nat}
theorem renew_any {L : W5.Lg} (h : Logd w0 w X p q L) (v : Value) (ls : List (List UInt8)) (hv : RowsX w X v ls) (hll : ls.length <= 1000000) (hwl : L.d.wait.length <= 1073600000) :
 Calls Tryz.prog 49 #[.pointer (some ⟨q, 0, none⟩), v] w fun e w' => e = .returned (.int .i64 (W5.renew L ls).2) /\ Logd w0 w' X p q (W5.renew L ls).1 /\ Keeps X w w' := by
 obtain ⟨ib, hib, hzb0, hzb1, hzb2⟩ := info_parts info_row5
 obtain ⟨⟨Y, lv, vs, hY⟩, hfit, hlen, hgen⟩ := h
 have hok := hY.held.okd
 have hn1 := hok.n1
 have hn2 := hok.n2
 have hal := W5.area_le L.d hn2
 have HLEN := qh hlen
 have HY := qh hY
 have HV := qh hv
 obtain ⟨_, a, cap, rfl, hcell⟩ := hv.shape
 have HC := qh hcell
 have hbase : Hid (w0.heap.size <= w.heap.size) := hY.held.ext.size
 obtain ⟨d, gen, recs, cl⟩ := L
 simp only at hfit hgen hal hwl HY HLEN hn1 hn2
 have HA := qh (W5.renew_eq d gen recs cl ls)
 have c0 := hY.at_.c0
 have c1 := hY.at_.c1
 have c4 := hY.at_.c4
 have f4 := hY.at_.fr 4
 simp only at c0 c1 c4
 clear hY hv hok hlen hcell
 go_enter Tryz.func49, Tryz.ntmps49
 cases cl
 ·rw [if_neg (by decide)] at HA
  go_wp2
  go_loop [5, 17] (fun uv iv => ∃ k : Nat, k <= ls.length /\ iv = .int .i64 (k : Int) /\ uv = .int .i64 (W5.usedTo ls k : Int) /\ Hid (∀ b ∈ ls.take k, b.length <= 8192) /\ W5.usedTo ls k <= 17 * k) (fun _ iv => ls.length - (intOf iv).toNat)
  case atStart => exact ⟨0, by omega, rfl, rfl, (fun b h => by simp at h), by show 0 <= _; omega⟩
  case round =>
   obtain ⟨k, hk, rfl, rfl, hsm, hu17⟩ := hrel
   by_cases hlt : k < ls.length
   ·have hlti : (k : Int) < (ls.length : Int) := by omega
    obtain ⟨b, off, rfl, hbX, u, hcu, hbu, huX⟩ := HC.out k hlt
    have hbl := hbu.length_le
    obtain ⟨a', cap', rfl⟩ := hbu.shape
    have hus := W5.usedTo_succ ls k hlt
    have htk : ls.take (k + 1) = ls.take k ++ [ls[k]] := List.take_succ_eq_append_getElem hlt
    have hany : 8192 < ls[k].length -> ls.any (fun b => decide (8192 < b.length)) = true := fun h => List.any_eq_true.2 ⟨_, List.getElem_mem hlt, decide_eq_true h⟩
    clear hbu huX
    generalize ls[k] = LB at *
    have hlbi : (LB.length : Int) <= 9223372036854775807 := by omega
    by_cases h1 : 8192 < LB.length
    ·have h1i : (8192 : Int) < (LB.length : Int) := by omega
     rw [if_pos (hany h1)] at HA
     clear h1 hany hus htk
     go_wp2
     go_ret
     rw [HA.out]
     exact ⟨rfl, ⟨⟨Y, lv, vs, HY.out⟩, hfit, HLEN.out, hgen⟩, Keeps.refl _ _⟩
    ·have h1i : decide ((8192 : Int) < (LB.length : Int)) = false := decide_eq_false (by omega)
     have h8 : LB.length <= 8192 := by omega
     have hnd := need_17 LB.length h8
     have hne : ∀ w, Calls Tryz.prog 46 #[.int .i64 (LB.length : Int)] w fun e w' => e = .returned (.int .i64 (W5.need LB.length : Int)) /\ w = w' := by
      intro w
      refine (need_any (LB.length : Int) w (by omega) (by omega)).mono ?_
      rintro e w1 ⟨rfl, rfl⟩
      rw [W5.need_nat]
      exact ⟨rfl, rfl⟩
     have hsm2 : Hid (∀ b ∈ ls.take (k + 1), b.length <= 8192) := by
      intro x hx
      rw [htk] at hx
      rcases List.mem_append.1 hx with hx | hx
      ·exact hsm.out x hx
      ·obtain rfl := List.mem_singleton.1 hx
       exact h8
     have HUS := qh hus
     clear h1 hany htk hus
     generalize W5.need LB.length = N at *
     generalize hUK : W5.usedTo ls k = U at *
     have hUi : (U : Int) <= 17000000 := by omega
     have hNi : (N : Int) <= 17 := by omega
     clear hUK
     go_wp2_with fail
     refine (hne _).mono ?_
     rintro e w5 ⟨rfl, rfl⟩
     go_wp2
     go_round
     case rel => exact ⟨k + 1, by omega, by go_num, by rw [HUS.out]; rfl, hsm2, by rw [HUS.out]; omega⟩
     case measure => (simp [intOf]; try omega)
   ·obtain rfl : k = ls.length := by omega
    have hsz : ¬ ls.any (fun b => decide (8192 < b.length)) = true := by
     intro h
     obtain ⟨x, hx, h9⟩ := List.any_eq_true.1 h
     have h8 := hsm.out x (by rw [List.take_length]; exact hx)
     have := of_decide_eq_true h9
     omega
    have HSM := qh (show ∀ b ∈ ls, b.length <= 8192 from fun x hx => hsm.out x (by rw [List.take_length]; exact hx))
    rw [if_neg hsz] at HA
    rw [W5.usedTo_all] at *
    clear hsz hsm
    have hs := held_size HY.out.held
    have har := area_any d.n w (by omega) (by omega)
    rw [W5.area_eq d] at har
    generalize hU : W5.used ls = U at *
    generalize hA : W5.area d = A at *
    have HU := qh hU
    have HAR := qh hA
    clear hU hA
    have hUi : (U : Int) <= 17000000 := by omega
    have hAi : (A : Int) <= 2047 := by omega
    go_wp2_with fail
    refine hs.mono ?_
    rintro e w5 ⟨rfl, rfl⟩
    go_wp2_with fail
    refine har.mono ?_
    rintro e w5 ⟨rfl, rfl⟩
    clear hs har
    by_cases h2 : A < U
    ·have h2i : (A : Int) < (U : Int) := by omega
     rw [if_pos h2] at HA
     clear h2
     go_wp2
     go_ret
     rw [HA.out]
     exact ⟨rfl, ⟨⟨Y, lv, vs, HY.out⟩, by simp only; rw [HAR.out]; exact hfit, HLEN.out, hgen⟩, Keeps.refl _ _⟩
    ·have h2i : decide ((A : Int) < (U : Int)) = false := decide_eq_false (by omega)
     rw [if_neg h2] at HA
     have H2 := qh h2
     clear h2
     by_cases h3 : gen = 4294967295
     ·rw [if_pos h3] at HA
      subst h3
      go_wp2
      go_ret
      rw [HA.out]
      exact ⟨rfl, ⟨⟨Y, lv, vs, HY.out⟩, by simp only; rw [HAR.out]; exact hfit, HLEN.out, hgen⟩, Keeps.refl _ _⟩
     ·have h3i : ((gen : Int) == 4294967295) = false := by rw [beq_eq_false_iff_ne]; omega
      have HG1 := qh (show gen + 1 < 4294967296 by omega)
      rw [if_neg h3] at HA
      clear h3
      have hbg := begin_any HY.out.held c0 ((HY.out.lf q (.inl rfl)).1) gen c1 HG1.out (.slice a ls.length cap) ls (HV.out.mono HY.out.sub) HSM.out (by rw [HU.out]; have := H2.out; omega) hwl
      have HBG := qh hbg
      have hbn := W5.begin_n d (gen + 1) ls
      clear hbg c0 c4 f4
      generalize hx : W5.begin_ d (gen + 1) ls = BX at *
      obtain ⟨D1, E1⟩ := BX
      unfold W5.renewI at HA
      simp only at HA hbn
      clear hx
      go_wp2_with fail
      refine HBG.out.mono ?_
      clear HBG
      rintro e w6 ⟨rfl, hst6⟩
      clear c1
      obtain ⟨hY6, hK6⟩ := HY.out.disk hst6
      have HY6 := qh hY6
      have HK6 := qh hK6
      have HV6 := qh (HV.out.keeps hK6)
      have HBA6 := qh (Nat.le_trans hbase.out hst6.2.size)
      have he : W5.area D1 = A := by rw [<- HAR.out]; unfold W5.area; rw [hbn]
      have HE := qh he
      clear hst6 hY6 hK6 HY he hbase
      by_cases hz : E1 = 0
      ·subst hz
       have hg1i : (gen : Int) + 1 < 4294967296 := by have := HG1.out; omega
       rw [if_pos rfl] at HA
       have c1 := HY6.out.at_.c1
       have f1 := HY6.out.at_.fr 1
       have c2 := HY6.out.at_.c2
       have f2 := HY6.out.at_.fr 2
       have c3 := HY6.out.at_.c3
       have f3 := HY6.out.at_.fr 3
       have hL7 := ((HY6.out.at_.set1 (gen + 1)).set2 U).set3
       have hM7 := ((LF.set q lv vs w6 1 (.int .u32 ((gen + 1 : Nat) : Int))).trans (LF.set q lv vs _ 2 (.int .i64 (U : Int))) (fun _ _ h => h)).trans (LF.set q lv vs _ 3 (.slice none 0 0)) (fun _ _ h => h)
       obtain ⟨hY7, hK7⟩ := HY6.out.re hM7 hL7 (LF.nil q lv vs w6)
       rw [show ((gen + 1 : Nat) : Int) = (gen : Int) + 1 from rfl] at hY7 hK7
       have HY7 := qh hY7
       have HK7 := qh (HK6.out.trans hK7)
       have HV7 := qh (HV6.out.keeps hK7)
       clear hY7 hK7 hM7 hL7 HY6 HK6 HV6 HBA6
       go_wp2
       generalize (((w6.setCell ⟨q, 1, none⟩ (.int .u32 ((gen : Int) + 1))).setCell ⟨q, 2, none⟩ (.int .i64 (U : Int))).setCell ⟨q, 3, none⟩ (.slice none 0 0)) = w7 at *
       generalize New Y w6 w7 = Y7 at *
       clear c1 f1 c2 f2 c3 f3
       go_loopw [71] (fun iv wr => ∃ k : Nat, ∃ Yr : Nat -> Prop, ∃ lr : Value, ∃ vr : List Value, k <= ls.length /\ iv = .int .i64 (k : Int) /\ Hid (LogY w0 wr X Yr p q D1 (gen + 1) U lr vr (ls.take k) false) /\ Hid (Keeps X w wr) /\ Hid (RowsX wr X (.slice a ls.length cap) ls) /\ Hid (w0.heap.size <= wr.heap.size)) (fun iv _ => ls.length - (intOf iv).toNat)
       case atStart => exact ⟨0, Y7, _, _, by omega, rfl, HY7.out, HK7.out, HV7.out, HY7.out.held.ext.size⟩
       case round =>
        obtain ⟨k, Yr, lr, vr, hk, rfl, hYr, hKr, hVr, hbase⟩ := hrel
        by_cases hlt : k < ls.length
        ·have hlti : (k : Int) < (ls.length : Int) := by omega
         obtain ⟨_, a2, cap2, hsl, hce⟩ := hVr.out.shape
         obtain ⟨rfl, _, rfl⟩ := Value.slice.inj hsl
         obtain ⟨b, off, rfl, hbX, u, hcu, hbu, huX⟩ := hce k hlt
         have hlb := HSM.out ls[k] (List.getElem_mem hlt)
         have htk : ls.take (k + 1) = ls.take k ++ [ls[k]] := List.take_succ_eq_append_getElem hlt
         have HTK := qh htk
         have htl : (ls.take k).length = k := by rw [List.length_take]; omega
         have HBU := qh hbu
         obtain ⟨a', cap', rfl⟩ := hbu.shape
         clear hsl hce hbu huX htk
         generalize ls[k] = LB at *
         have c3 := hYr.out.at_.c3
         have hHeld : wr.drew.cell? ⟨q, 3, none⟩ = some lr := Ext.cell (Ext.of_drew wr) c3
         have HLA := qh hYr.out.at_
         go_wp2_with fail
         refine wp_region_C (fun w' => w'.cell? ⟨q, 3, none⟩ = some lr) 8 (by kernel_rfl) ?_
         (refine aP (i := 0) (oi := ⟨some 75, _, _, _, _, _⟩) (v := ?_) rfl ?_ hHeld ?_; rotate_left; (focus (intro w; go_simp; first | done | with_reducible rfl)); try simp only [Act.put, zB, zC, zD])
         (refine aC [2, 3, 4, 8] (i := 1) (oi := ⟨some 76, _, _, _, _, _⟩) (v := ?_) rfl ?_ hHeld ?_; rotate_left; (focus (intro w hSw; (skip); go_simp; first | done | with_reducible rfl)); try simp only [Act.put, zB, zC, zD])
         (refine aC [3, 4, 8] (i := 2) (oi := ⟨some 77, _, _, _, _, _⟩) (v := ?_) rfl ?_ hHeld ?_; rotate_left; (focus (intro w hSw; (skip); go_simp; first | done | with_reducible rfl)); try simp only [Act.put, zB, zC, zD])
         (refine aC [4, 8] (i := 3) (oi := ⟨some 78, _, _, _, _, _⟩) (v := ?_) rfl ?_ hHeld ?_; rotate_left; (focus (intro w hSw; (skip); go_simp; first | done | with_reducible rfl)); try simp only [Act.put, zB, zC, zD])
         (refine aC [8] (i := 4) (oi := ⟨some 79, _, _, _, _, _⟩) (v := ?_) rfl ?_ hHeld ?_; rotate_left; (focus (intro w hSw; (skip); go_simp; first | done | with_reducible rfl)); try simp only [Act.put, zB, zC, zD])
         (refine aC [6, 8] (i := 5) (oi := ⟨some 80, _, _, _, _, _⟩) (v := ?_) rfl ?_ hHeld ?_; rotate_left; (focus (intro w hSw; (skip); go_simp; first | done | with_reducible rfl)); try simp only [Act.put, zB, zC, zD])
         refine wpAnyC_one (i := 6) (oi := ⟨some 81, _, _, _, _, _⟩) rfl (by kernel_rfl) (by decide) (fun K hK => ?_)
         rw [if_pos (by rfl)]
         go_simp
         go_at_call 56
         refine (clone_any _ LB _ (HBU.out.ext (Ext.of_drew wr)) (by omega)).mono ?_
         rintro e w6 ⟨u6, rfl, hown6, hx6⟩
         have hx6' := (Ext.of_drew wr).trans hx6
         refine hK.out _ _ (Ext.cell hx6' HLA.out.c3) ?_
         clear hK K
         try simp only [Act.put, zB, zC, zD]
         refine wpAnyC_one (i := 7) (oi := ⟨some 82, _, _, _, _, _⟩) rfl (by kernel_rfl) (by decide) (fun K hK => ?_)
         rw [if_pos (by rfl)]
         refine wp_buildSlice rfl (by simp [Act.eval]) (run_buildSlice_one w6 90 56 ib (.slice none 0 0) u6 Tryz.underlying90 hib hzb0 (by rw [hzb1]; rfl) (by rw [hzb1]; decide) (by rw [hzb1]; decide) (by obtain ⟨ua, uc, rfl⟩ := (Bs.of_own hown6).shape; rw [hzb1]; rfl)) ?_
         have hx7 := Ext.of_alloc w6 (.cells u6.cells 56)
         refine hK.out _ _ (Ext.cell hx7 (Ext.cell hx6' HLA.out.c3)) ?_
         clear hK K
         try simp only [Act.put, zB, zC, zD]
         have hnews : ∀ j u, [u6][j]? = some u -> (w6.alloc (.cells u6.cells 56)).cell? ((⟨w6.heap.size, 0, none⟩ : Addr).add j) = some u := by
          intro j u hj
          obtain ⟨ua, uc, rfl⟩ := (Bs.of_own hown6).shape
          rw [Addr.add_lit, World.cell?_alloc_at _ _ _ _ rfl]
          simpa [Value.cells] using hj
         have hone : ∀ u ∈ [u6], u.oneCell' = true := by
          intro u hu
          obtain rfl := List.mem_singleton.1 hu
          obtain ⟨ua, uc, rfl⟩ := (Bs.of_own hown6).shape
          rfl
         have hrow7 := (HLA.out.ext (hx6'.trans hx7)).rows.row
         refine wpAnyC_c (oi := ⟨some 83, _, _, _, _, _⟩) rfl (by kernel_rfl) (fun K hK => ?_)
         rw [if_pos (by rfl)]
         refine wp_append_lies _ _ _ 90 rfl w0.heap.size 56 ib (.slice none 0 0) 1 24 Tryz.underlying90 hib hzb0 hzb1 hzb2 (by rfl) (by decide) lr (ls.take k).length vr rfl hrow7 ⟨w6.heap.size, 0, none⟩ 1 1 [u6] rfl rfl hnews hone (by decide) (by unfold maxLen; omega) (by omega) (Nat.le_trans hbase.out (hx6'.trans hx7).size) (w6.heap.size + 1) (by simp) ?_
         intro g7 cap7 w8 hown8 hgrow8 hat8 hlt8
         have hnv8 : ∀ k, (Value.slice (some ⟨g7, 0, none⟩) ((ls.take k).length + 1) cap7).ownBlock = some k -> lr.ownBlock = some k ∨ wr.heap.size <= k := by
          intro k hk
          have e : g7 = k := by simpa [Value.ownBlock] using hk
          subst e
          rcases hat8 with h | h
          ·exact .inl h
          ·exact .inr (by rw [h]; exact Nat.le_trans hx6'.size (Nat.le_succ _))
         obtain ⟨d3, d3f, hL8, hM8, hF8⟩ := HLA.out.push (hx6'.trans hx7) (hbase.out) (Nat.le_refl _) (hx7.keptOwn hown6) hown8 hgrow8 hnv8
         refine hK.out _ _ ?_
         clear hK K
         try simp only [Act.put, zB, zC, zD]
         (refine aT (i := 9) (oi := ⟨some 84, _, _, _, _, _⟩) (v := ?_) rfl ?_ ?_; rotate_left; (focus (intro w; go_simp; first | done | with_reducible rfl)); try simp only [Act.put, zB, zC, zD])
         (refine aT (i := 10) (oi := ⟨some 85, _, _, _, _, _⟩) (v := ?_) rfl ?_ ?_; rotate_left; (focus (intro w; go_simp; first | done | with_reducible rfl)); try simp only [Act.put, zB, zC, zD])
         refine wpAny_one (i := 11) (oi := ⟨none, _, _, _, _, _⟩) rfl (by kernel_rfl) (fun K hK => ?_)
         rw [if_pos (by rfl)]
         go_simp
         refine hK.out _ _ ?_
         clear hK K
         try simp only [Act.put, zB, zC, zD]
         refine wpAny_done (by kernel_rfl) ?_ _
         clear d3 d3f hown8 hgrow8 hat8 hlt8 hnews hone hrow7 hx6' hx7 hx6 hown6 c3 hcu
         obtain ⟨hY8, hK8⟩ := hYr.out.re hM8 hL8 hF8
         rw [<- HTK.out] at hY8
         simp only [htl] at hY8 hK8 hM8 ⊢
         have HY8 := qh hY8
         have HK8 := qh (hKr.out.trans hK8)
         have HV8 := qh (hVr.out.keeps hK8)
         have HB8 := qh (Nat.le_trans hbase.out hM8.size)
         clear hY8 hK8 hM8 hL8 hF8 hYr hKr hVr hbase HLA hHeld hnv8
         generalize w8.setCell ⟨q, 3, none⟩ (.slice (some ⟨g7, 0, none⟩) (k + 1) cap7) = wB at *
         go_wp2
         go_roundw
         case rel => exact ⟨k + 1, _, _, _, by omega, by go_num, HY8, HK8, HV8, HB8⟩
         case measure => (simp [intOf]; try omega)
        ·obtain rfl : k = ls.length := by omega
         have HYF := qh hYr.out
         have HKF := qh hKr.out
         rw [List.take_length] at HYF
         clear hYr hKr hVr hbase
         go_wp2
         go_ret
         rw [HA.out]
         refine ⟨rfl, ⟨⟨Yr, lr, vr, by simp only; rw [HU.out]; exact HYF.out⟩, ?_, HSM.out, HG1.out⟩, HKF.out⟩
         simp only
         rw [HE.out, HU.out]
         have := H2.out
         omega
      ·have hz3 : (E1 != 0) = true := by rw [bne_iff_ne]; exact hz
       have c4 := HY6.out.at_.c4
       have f4 := HY6.out.at_.fr 4
       rw [if_neg hz] at HA
       clear hz
       obtain ⟨hY8, hK8⟩ := HY6.out.re (LF.set q lv vs w6 4 (.bool true)) (HY6.out.at_.set4 true) (fun _ h => .inl h)
       have HY8 := qh hY8
       have HK8 := qh (HK6.out.trans hK8)
       clear hY8 hK8 HY6 HK6
       go_wp2
       go_ret
       rw [HA.out]
       refine ⟨rfl, ⟨⟨_, _, vs, HY8.out⟩, ?_, HLEN.out, hgen⟩, HK8.out⟩
       simp only
       rw [HE.out]
       exact hfit
 ·rw [if_pos rfl] at HA
  go_wp2
  go_ret
  rw [HA.out]
  exact ⟨rfl, ⟨⟨Y, lv, vs, HY.out⟩, hfit, HLEN.out, hgen⟩, Keeps.refl _ _⟩
end
end Go.Proofs.YtnjfioikpajhlaaGreat
namespace Go.Proofs.YtnjfioikpajhlaaGreat
open Go.RowKit
section
variable {w0 w : World} {X : Nat -> Prop} {p q : Nat}
theorem Logd.shape {L : W5.Lg} (h : Logd w0 w X p q L) : ∃ lva lvc, w.cell? ⟨q, 3, none⟩ = some (.slice lva L.recs.length lvc) /\ RowsX w (fun _ => True) (.slice lva L.recs.length lvc) L.recs := by
 obtain ⟨⟨Y, lv, vs, hY⟩, _, _, _⟩ := h
 have hr := hY.at_.rows
 have c3 := hY.at_.c3
 obtain ⟨lva, lvc, rfl⟩ : ∃ lva lvc, lv = .slice lva L.recs.length lvc := by
  rcases hr.row.2 with ⟨h9, h10⟩ | ⟨g, cp, cur, h9, _⟩
  ·exact ⟨_, _, by rw [h9, h10]⟩
  ·exact ⟨_, _, h9⟩
 exact ⟨lva, lvc, c3, hr.rows (fun _ _ _ => trivial)⟩
theorem records_any {L : W5.Lg} (h : Logd w0 w X p q L) :
 Calls Tryz.prog 27 #[.pointer (some ⟨q, 0, none⟩)] w fun e w' => ∃ v vs, e = .returned v /\ RowsO w' w.heap.size v vs L.recs /\ Ext w w' := by
 obtain ⟨ib, hib, hzb0, hzb1, hzb2⟩ := info_parts info_row5
 have hlr : L.recs.length <= 2047 := by
  obtain ⟨⟨Y, lv, vs, hY⟩, hfit, _, _⟩ := h
  have := W5.len_le_used L.recs
  have := W5.area_le L.d hY.held.okd.n2
  omega
 have HLEN := qh h.len
 obtain ⟨lva, lvc, c3, hrx⟩ := h.shape
 obtain ⟨_, a, cap, hsl, hcell⟩ := hrx.shape
 obtain ⟨rfl, _, rfl⟩ := Value.slice.inj hsl
 have HC := qh hcell
 generalize L.recs = ls at *
 have hli : (ls.length : Int) <= 2047 := by omega
 clear h hrx hsl hcell
 go_enter Tryz.func27, Tryz.ntmps27
 go_wp2
 go_loopw [3, 11] (fun bv iv wr => ∃ k : Nat, ∃ vs, k <= ls.length /\ iv = .int .i64 (k : Int) /\ Hid (RowsO wr w.heap.size bv vs (ls.take k)) /\ Hid (Ext w wr)) (fun _ iv _ => ls.length - (intOf iv).toNat)
 case atStart => exact ⟨0, [], by omega, rfl, RowsO.nil _ _, Ext.refl w⟩
 case round =>
  obtain ⟨k, vs, hk, rfl, hr, hx⟩ := hrel
  by_cases hlt : k < ls.length
  ·have hlti : (k : Int) < (ls.length : Int) := by omega
   obtain ⟨b, off, rfl, -, u, hcu, hbu, -⟩ := HC.out k hlt
   have hlb := HLEN.out ls[k] (List.getElem_mem hlt)
   have HTK := qh (show ls.take (k + 1) = ls.take k ++ [ls[k]] from List.take_succ_eq_append_getElem hlt)
   have htl : (ls.take k).length = k := by rw [List.length_take]; omega
   have hcu2 := Ext.cell hx.out hcu
   have HBU := qh (hbu.ext hx.out)
   obtain ⟨a', cap', rfl⟩ := hbu.shape
   clear hbu hcu
   generalize ls[k] = LB at *
   go_wp2_with fail
   refine (clone_any _ LB _ HBU.out (by omega)).mono ?_
   rintro e w6 ⟨u6, rfl, hown6, hx6⟩
   obtain ⟨ua, uc, rfl⟩ := (Bs.of_own hown6).shape
   have HU6 := qh hown6
   have HX6 := qh hx6
   have hx7 := Ext.of_alloc w6 (.cells #[.slice ua LB.length uc] 56)
   have HR7 := qh ((hr.out.ext (HX6.out.trans hx7)).row)
   have HRD := qh (Reads.one w6 (.slice ua LB.length uc) 56 rfl)
   have hs7 := (hx.out.trans (HX6.out.trans hx7)).size
   rw [htl] at HR7
   clear hown6 hx6
   go_wp2_with (first | (at_builtin; refine wpl_append _ rfl _ _ 90 rfl w.heap.size 56 ib (.slice none 0 0) 24 Tryz.underlying90 hib hzb0 hzb1 hzb2 rfl u3 k vs (by rfl) HR7.out _ [.slice ua LB.length uc] (by rfl) HRD.out (by simp [maxLen]; omega) (by simp; omega) hs7 ?_; intro v' w8 hown8 hgrow8) | fail)
   have HR8 := qh (hr.out.push (HX6.out.trans hx7) hx.out.size (Nat.le_refl _) (hx7.keptOwn HU6.out) (by rw [htl]; exact hown8) hgrow8)
   have HX8 := qh ((hx.out.trans (HX6.out.trans hx7)).grown hgrow8 (fun k hk => (hr.out.row.lt k hk).1))
   rw [<- HTK.out] at HR8
   clear hown8 hgrow8 hx7 HR7 HRD hr hx
   go_wp2
   go_roundw
   case rel => exact ⟨k + 1, _, by omega, by go_num, HR8, HX8⟩
   case measure => (simp [intOf]; try omega)
  ·obtain rfl : k = ls.length := by omega
   rw [List.take_length] at hr
   have HR := qh hr.out
   have HX := qh hx.out
   clear hr hx
   go_wp2
   go_ret
   exact ⟨_, vs, rfl, HR.out, HX.out⟩
end
end Go.Proofs.YtnjfioikpajhlaaGreat
namespace Go.Proofs.YtnjfioikpajhlaaGreat
open Go.RowKit
namespace W5
def readF (d : D.Dsk) (gen : Nat) : Nat -> Nat -> Nat -> List (List UInt8)
 | 0, _, _ => []
 | f + 1, n, at_ => match nextR d gen n at_ with
  | none => []
  | some b => b :: readF d gen f (n + 1) (at_ + need b.length)
def read (d : D.Dsk) (gen : Nat) : List (List UInt8) := readF d gen (area d + 1) 0 0
theorem readF_none {d : D.Dsk} {gen f n at_ : Nat} (h : nextR d gen n at_ = none) : readF d gen f n at_ = [] := by
 cases f with
 | zero => rfl
 | succ f => unfold readF; rw [h]
theorem readF_some {d : D.Dsk} {gen f n at_ : Nat} {b : List UInt8} (h : nextR d gen n at_ = some b) : readF d gen (f + 1) n at_ = b :: readF d gen f (n + 1) (at_ + need b.length) := by
 show (match nextR d gen n at_ with | none => [] | some b => b :: readF d gen f (n + 1) (at_ + need b.length)) = _
 rw [h]
theorem nextR_some {d : D.Dsk} (hok : D.Ok d) {gen n at_ : Nat} {b : List UInt8} (h : nextR d gen n at_ = some b) : at_ + need b.length <= area d /\ b.length <= 8192 := by
 unfold nextR at h
 split at h
 ·cases h
 ·split at h
  ·cases h
  ·split at h
   ·obtain rfl := Option.some.inj h
    rw [nextB_all d hok]
    omega
   ·cases h
def list (d : D.Dsk) : List (List UInt8) := if (current d).2 = true then read d (current d).1 else []
def opened (d : D.Dsk) : Lg × Int := renew ⟨d, following d (current d).1 - 1, [], false⟩ (list d)
def open_ (d : D.Dsk) : Lg × Int :=
 if d.n < 4 then (⟨d, 0, [], false⟩, 1) else if d.down = true then (⟨d, 0, [], false⟩, 3) else
 if 4294967295 < following d (current d).1 then (⟨d, 0, [], false⟩, 11) else opened d
theorem used_snoc (l : List (List UInt8)) (b : List UInt8) : used (l ++ [b]) = used l + need b.length := by
 unfold used; rw [List.map_append, List.sum_append]; simp
end W5
section
variable {w0 w : World} {X : Nat -> Prop} {p q : Nat}
theorem Logd.less {L : W5.Lg} {X' : Nat -> Prop} (h : Logd w0 w X p q L) (hX : ∀ k, X' k -> X k) (ho : ∀ k, k < w0.heap.size -> X' k) : Logd w0 w X' p q L :=
 let ⟨⟨Y, lv, vs, hY⟩, h2, h3, h4⟩ := h
 ⟨⟨Y, lv, vs, hY.less hX ho⟩, h2, h3, h4⟩
theorem Logd.held {L : W5.Lg} (h : Logd w0 w X p q L) : Held w0 w X p L.d :=
 let ⟨⟨_, _, _, hY⟩, _, _, _⟩ := h
 hY.held.less hY.sub hY.old
theorem Logd.made {wb wl : World} {d : D.Dsk} {gen : Nat} (h : Held w0 w X p d) (hxb : Ext w wb) (hq : q = wb.heap.size) (hx : Ext (wb.alloc (.cells #[.pointer (some ⟨p, 0, none⟩), .int .u32 (gen : Int), .int .i64 0, .slice none 0 0, .bool false] 138)) wl) (hg : gen < 4294967296) :
 Logd w0 wl (fun k => X k ∨ (w.heap.size <= k /\ k < wl.heap.size /\ k ≠ q)) p q ⟨d, gen, [], false⟩ := by
 subst hq
 have hxl : Ext w wl := (hxb.alloc _).trans hx
 have hb : (wb.alloc (.cells #[.pointer (some ⟨p, 0, none⟩), .int .u32 (gen : Int), .int .i64 0, .slice none 0 0, .bool false] 138)).heap[wb.heap.size]? = some (.cells #[.pointer (some ⟨p, 0, none⟩), .int .u32 (gen : Int), .int .i64 0, .slice none 0 0, .bool false] 138 (0, 0)) := heap_alloc_new wb _
 have hbl := blk_mod hb (F := fun _ => False) (Mod.of_ext hx) (fun h => h)
 have hlt := blk_lt hbl
 refine ⟨⟨New X w wl, .slice none 0 0, [], h.all hxl, ?_, ⟨hbl, Nat.le_trans h.ext.size hxb.size, RowsO.nil _ _⟩, ?_, fun k hk => .inl (h.old k hk)⟩, Nat.zero_le _, (fun b hb => absurd hb List.not_mem_nil), hg⟩
 ·rintro k (hk | ⟨h1, h2, _⟩)
  ·exact .inl hk
  ·exact .inr ⟨h1, h2⟩
 ·rintro k (rfl | hk | ⟨u, hu, _⟩)
  ·refine ⟨.inr ⟨hxb.size, hlt⟩, ?_⟩
   rintro (hX | ⟨_, _, h9⟩)
   ·have := h.lt _ hX
    have := hxb.size
    omega
   ·exact h9 rfl
  ·simp [Value.ownBlock] at hk
  ·cases hu
def Opened (w0 w w' : World) (X : Nat -> Prop) (p : Nat) (r : W5.Lg × Int) (e : Ending) : Prop :=
 (r.2 = 0 /\ ∃ q, e = .returned (.tuple #[.pointer (some ⟨q, 0, none⟩), .int .i64 0]) /\ w.heap.size <= q /\ Logd w0 w' X p q r.1 /\ Keeps X w w') ∨
 (r.2 ≠ 0 /\ e = .returned (.tuple #[.pointer none, .int .i64 r.2]) /\ Step w0 w w' X p r.1.d)
theorem open_any {d : D.Dsk} (h : Held w0 w X p d) (hwl : d.wait.length <= 1073600000) :
 Calls Tryz.prog 24 #[.pointer (some ⟨p, 0, none⟩)] w fun e w' => Opened w0 w w' X p (W5.open_ d) e := by
 obtain ⟨ib, hib, hzb0, hzb1, hzb2⟩ := info_parts info_row5
 have HD := qh h
 have hok := h.okd
 have hn1 := hok.n1
 have hn2 := hok.n2
 have HO := qh (show W5.open_ d = _ from W5.open_.eq_1 d)
 have hs := held_size h
 have hdw := held_down h
 clear h
 unfold Opened
 go_enter Tryz.func24, Tryz.ntmps24
 go_wp2_with fail
 refine hs.mono ?_
 rintro e w1 ⟨rfl, rfl⟩
 by_cases h1 : d.n < 4
 ·rw [if_pos h1] at HO
  go_wp2
  go_ret2
  rw [HO.out]
  exact .inr ⟨(by intro h; cases h), rfl, HD.out, Keeps.refl _ _⟩
 ·have h1i : decide (d.n < 4) = false := decide_eq_false h1
  rw [if_neg h1] at HO
  have h4 : 4 <= d.n := by omega
  clear h1
  go_wp2_with fail
  refine hdw.mono ?_
  rintro e w1 ⟨rfl, rfl⟩
  by_cases h2 : d.down = true
  ·rw [h2]
   rw [if_pos h2] at HO
   go_wp2
   go_ret2
   rw [HO.out]
   exact .inr ⟨(by intro h; cases h), rfl, HD.out, Keeps.refl _ _⟩
  ·have h2i : d.down = false := by simpa using h2
   rw [if_neg h2] at HO
   rw [h2i]
   clear h2 hs hdw
   go_wp2_with fail
   refine (current_any HD.out h4 h2i).mono ?_
   rintro e w2 ⟨rfl, hx2⟩
   have hgl : (W5.current d).1 < 4294967296 := W5.curTo_lt d 2
   have HLI := qh (show W5.list d = if (W5.current d).2 = true then W5.read d (W5.current d).1 else [] from rfl)
   have HOP := qh (show W5.opened d = W5.renew ⟨d, W5.following d (W5.current d).1 - 1, [], false⟩ (W5.list d) from rfl)
   generalize W5.current d = C at *
   obtain ⟨gen, has⟩ := C
   simp only at hgl HLI HOP HO
   have hf1 : 1 <= W5.following d gen := by unfold W5.following; omega
   have hf2 : W5.following d gen < 8589934592 := by
    have := W5.folTo_lt d gen hgl d.n.toNat
    unfold W5.following
    split <;> omega
   have HX2 := qh hx2
   clear hx2
   go_wp2_with fail
   refine (following_any (HD.out.after_ext HX2.out) h2i gen hgl).mono ?_
   rintro e w3 ⟨rfl, hx3⟩
   have HX3 := qh (HX2.out.trans hx3)
   clear hx3 HX2
   generalize W5.following d gen = F at *
   by_cases h3 : 4294967295 < F
   ·have h3i : (4294967295 : Int) < (F : Int) := by omega
    rw [if_pos h3] at HO
    clear h3
    go_wp2
    go_ret2
    rw [HO.out]
    exact .inr ⟨(by intro h; cases h), rfl, HD.out.after_ext HX3.out, Keeps.of_ext HX3.out⟩
   ·have h3i : decide ((4294967295 : Int) < (F : Int)) = false := decide_eq_false (by omega)
    rw [if_neg h3, HOP.out] at HO
    have hF1 : (1 : Int) <= (F : Int) := by omega
    have hF2 : (F : Int) <= 4294967295 := by omega
    have hfc : (F : Int) - 1 = ((F - 1 : Nat) : Int) := by omega
    generalize hG : F - 1 = G at *
    have hGi : (G : Int) < 4294967295 := by omega
    have hG : Hid (G < 4294967296) := by unfold Hid; omega
    clear h3 hf1 hf2 HOP
    go_wp2
    go_loopw [8, 9] (fun bv av wr => ∃ ls : List (List UInt8), ∃ vs : List Value, ∃ f : Nat, av = .int .i64 (W5.used ls : Int) /\ W5.used ls <= W5.area d /\ W5.area d < f + W5.used ls /\ Hid (RowsO wr (w3.heap.size + 1) bv vs ls) /\ Hid (Ext (w3.alloc (.cells #[.pointer (some ⟨p, 0, none⟩), .int .u32 (G : Int), .int .i64 0, .slice none 0 0, .bool false] 138)) wr) /\ Hid (has = true -> W5.read d gen = ls ++ W5.readF d gen f ls.length (W5.used ls)) /\ Hid (has = false -> ls = [])) (fun _ av _ => W5.area d - (intOf av).toNat)
    case atStart => exact ⟨[], [], W5.area d + 1, rfl, by show 0 <= _; omega, by show _ < _ + 0; omega, RowsO.nil _ _, Ext.refl _, fun _ => rfl, fun _ => rfl⟩
    case round =>
     obtain ⟨ls, vs, f, rfl, hul, hfu, hr, hx, ht, hfa⟩ := hrel
     have hlu := W5.len_le_used ls
     have hal := W5.area_le d hn2
     cases has
     ·obtain rfl := hfa.out rfl
      have HLE : Hid (W5.list d = []) := HLI.out.trans (if_neg (by decide))
      have hLd := Logd.made HD.out HX3.out (rfl : w3.heap.size = w3.heap.size) hx.out hG.out
      have hRX := hr.out.rows (X := fun k => X k ∨ (w.heap.size <= k /\ k < wr.heap.size /\ k ≠ w3.heap.size)) (fun k h1 h2 => .inr ⟨by have := HX3.out.size; omega, h2, by omega⟩)
      have hre := renew_any hLd _ [] hRX (Nat.zero_le _) hwl
      have HRE := qh hre
      have HLE2 := qh (show W5.open_ d = W5.renew ⟨d, G, [], false⟩ [] by rw [HO.out, HLE.out])
      have HKX := qh (Keeps.of_ext (X := X) ((HX3.out.alloc _).trans hx.out))
      have HOLD := qh HD.out.old
      clear hLd hRX hre hx hr HO
      generalize hRR : W5.renew ⟨d, G, [], false⟩ [] = RR at *
      obtain ⟨L1, E1⟩ := RR
      clear hRR
      go_wp2_with fail
      refine HRE.out.mono ?_
      clear HRE
      rintro e w7 ⟨rfl, hL7, hK7⟩
      have HL7 := qh (hL7.less (X' := X) (fun _ h => .inl h) HOLD.out)
      have HK7 := qh (HKX.out.trans (hK7.less (X := X) (fun _ h => .inl h)))
      clear hL7 hK7
      by_cases hz : E1 = 0
      ·subst hz
       go_wp2
       go_ret2
       rw [HLE2.out]
       exact .inl ⟨rfl, _, rfl, HX3.out.size, HL7.out, HK7.out⟩
      ·have hz3 : (E1 != 0) = true := by rw [bne_iff_ne]; exact hz
       have HZ := qh hz
       clear hz
       go_wp2
       go_ret2
       rw [HLE2.out]
       exact .inr ⟨HZ.out, rfl, HL7.out.held, HK7.out⟩
     ·have hhx := hx.out
      have hx3r := qh ((HX3.out.alloc _).trans hx.out)
      have hcq := Ext.cell hx.out (show (w3.alloc (.cells #[.pointer (some ⟨p, 0, none⟩), .int .u32 (G : Int), .int .i64 0, .slice none 0 0, .bool false] 138)).cell? ⟨w3.heap.size, 0, none⟩ = some (.pointer (some ⟨p, 0, none⟩)) by rw [World.cell?_alloc_at _ _ _ _ rfl]; rfl)
      have hne := next_any (HD.out.after_ext hx3r.out) h2i hcq gen ls.length (W5.used ls) hgl (by omega) (by omega)
      have HNE := qh hne
      have HNS := qh (fun b (h : W5.nextR d gen ls.length (W5.used ls) = some b) => W5.nextR_some hok h)
      have HRS := qh (fun b (h : W5.nextR d gen ls.length (W5.used ls) = some b) => W5.readF_some (f := f - 1) h)
      have HRN := qh (fun (h : W5.nextR d gen ls.length (W5.used ls) = none) => W5.readF_none (f := f) h)
      have hf1 : f - 1 + 1 = f := by omega
      rw [hf1] at HRS
      clear hhx hne
      obtain ⟨lva, lvc, rfl⟩ : ∃ lva lvc, u8 = .slice lva ls.length lvc := by
       rcases hr.out.row.2 with ⟨h9, h10⟩ | ⟨g, cp, cur, h9, _⟩
       ·exact ⟨_, _, by rw [h9, h10]⟩
       ·exact ⟨_, _, h9⟩
      have hlsi : (ls.length : Int) <= 2047 := by omega
      have hui : (W5.used ls : Int) <= 2047 := by omega
      go_wp2_with fail
      unfold NextE at HNE
      refine HNE.out.mono ?_
      clear HNE
      rintro e w4 ⟨v4, rfl, hso, hno, hx4⟩
      have HX4 := qh (hx.out.trans hx4)
      cases hn : W5.nextR d gen ls.length (W5.used ls) with
      | none =>
       have HLE : Hid (W5.list d = ls) := by
        unfold Hid
        rw [HLI.out, if_pos (by trivial), ht.out (by trivial), HRN.out hn, List.append_nil]
       have hr := qh (hr.out.ext hx4)
       obtain rfl := hno hn
       clear HRS HRN HNS ht hfa hso hno hx hcq hx3r hx4 hn
       have hx := HX4
       clear HX4
       obtain ⟨wt, hwt⟩ : ∃ wt, wt = w4 := ⟨_, rfl⟩
       subst hwt
       have hLd := Logd.made HD.out HX3.out (rfl : w3.heap.size = w3.heap.size) hx.out hG.out
       have hRX := hr.out.rows (X := fun k => X k ∨ (w.heap.size <= k /\ k < wt.heap.size /\ k ≠ w3.heap.size)) (fun k h1 h2 => .inr ⟨by have := HX3.out.size; omega, h2, by omega⟩)
       have hre := renew_any hLd _ ls hRX (by omega) hwl
       have HRE := qh hre
       have HLE2 := qh (show W5.open_ d = W5.renew ⟨d, G, [], false⟩ ls by rw [HO.out, HLE.out])
       have HKX := qh (Keeps.of_ext (X := X) ((HX3.out.alloc _).trans hx.out))
       have HOLD := qh HD.out.old
       clear hLd hRX hre hx hr HO
       generalize hRR : W5.renew ⟨d, G, [], false⟩ ls = RR at *
       obtain ⟨L1, E1⟩ := RR
       clear hRR
       go_wp2_with fail
       refine HRE.out.mono ?_
       clear HRE
       rintro e w7 ⟨rfl, hL7, hK7⟩
       have HL7 := qh (hL7.less (X' := X) (fun _ h => .inl h) HOLD.out)
       have HK7 := qh (HKX.out.trans (hK7.less (X := X) (fun _ h => .inl h)))
       clear hL7 hK7
       by_cases hz : E1 = 0
       ·subst hz
        go_wp2
        go_ret2
        rw [HLE2.out]
        exact .inl ⟨rfl, _, rfl, HX3.out.size, HL7.out, HK7.out⟩
       ·have hz3 : (E1 != 0) = true := by rw [bne_iff_ne]; exact hz
        have HZ := qh hz
        clear hz
        go_wp2
        go_ret2
        rw [HLE2.out]
        exact .inr ⟨HZ.out, rfl, HL7.out.held, HK7.out⟩
      | some b =>
       have hns := HNS.out b hn
       have hrs := HRS.out b hn
       have hob := hso b hn
       obtain ⟨va, vc, rfl⟩ := (Bs.of_own hob).shape
       have HOB := qh hob
       have hnl := need_17 b.length hns.2
       have hnp := W5.need_pos b.length
       have hnee : ∀ w, Calls Tryz.prog 46 #[.int .i64 (b.length : Int)] w fun e w' => e = .returned (.int .i64 (W5.need b.length : Int)) /\ w = w' := by
        intro w
        refine (need_any (b.length : Int) w (by omega) (by omega)).mono ?_
        rintro e w1 ⟨rfl, rfl⟩
        rw [W5.need_nat]
        exact ⟨rfl, rfl⟩
       have HNEE := qh hnee
       have hx7 := Ext.of_alloc w4 (.cells #[.slice va b.length vc] 56)
       have HR7 := qh ((hr.out.ext (hx4.trans hx7)).row)
       have HRD := qh (Reads.one w4 (.slice va b.length vc) 56 rfl)
       have hbs : w3.heap.size + 1 <= wr.heap.size := by have := hx.out.size; rw [World.size_alloc] at this; exact this
       have HT2 : Hid (true = true -> W5.read d gen = (ls ++ [b]) ++ W5.readF d gen (f - 1) (ls ++ [b]).length (W5.used (ls ++ [b]))) := by
        intro _
        rw [ht.out (by trivial), hrs, W5.used_snoc, List.length_append, List.append_assoc]
        rfl
       have HUS := qh (W5.used_snoc ls b)
       have hul2 : W5.used (ls ++ [b]) <= W5.area d := by rw [HUS.out]; omega
       have hfu2 : W5.area d < f - 1 + W5.used (ls ++ [b]) := by rw [HUS.out]; omega
       have hwr : W5.used ls + W5.need b.length = W5.used (ls ++ [b]) := HUS.out.symm
       have hbi : (b.length : Int) <= 8192 := by omega
       clear hob hso hno hnee HNS HRS HRN ht hfa hrs hcq
       generalize hU2 : W5.used (ls ++ [b]) = U2 at *
       generalize hUU : W5.used ls = U at *
       generalize hNN : W5.need b.length = N at *
       have hwrI : (U : Int) + (N : Int) = (U2 : Int) := by omega
       have hU2i : (U2 : Int) <= 2047 := by omega
       go_wp2_with (first | (at_builtin; refine wpl_append _ rfl _ _ 90 rfl (w3.heap.size + 1) 56 ib (.slice none 0 0) 24 Tryz.underlying90 hib hzb0 hzb1 hzb2 rfl _ ls.length vs (by rfl) HR7.out _ [.slice va b.length vc] (by rfl) HRD.out (by simp [maxLen]; omega) (by simp; omega) (Nat.le_trans hbs (hx4.trans hx7).size) ?_; intro v' w8 hown8 hgrow8) | fail)
       have HR8 := qh (hr.out.push (hx4.trans hx7) hbs (Nat.le_refl _) (hx7.keptOwn HOB.out) hown8 hgrow8)
       have HX8 := qh ((HX4.out.trans hx7).grown hgrow8 (fun k hk => by have := (hr.out.row.lt k hk).1; rw [World.size_alloc]; exact this))
       clear hown8 hgrow8 hx7 HR7 HRD hr hx hx4 HX4 hn
       refine (HNEE.out _).mono ?_
       rintro e w9 ⟨rfl, rfl⟩
       go_wp2
       go_roundw
       case rel => exact ⟨ls ++ [b], _, f - 1, by rw [hU2], by rw [hU2]; omega, by rw [hU2]; omega, HR8, HX8, by rw [hU2]; exact HT2, fun h => by cases h⟩
       case measure => (simp [intOf]; try omega)
end
end Go.Proofs.YtnjfioikpajhlaaGreat
