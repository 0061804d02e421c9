/- The document's disk: Restart. -/
import Derived.Test.YtmcmocakfhedfaaRef5b
import Derived.Test.YtmcmocakfhedfaaRegion
namespace Go.Proofs.Ytmcmocakfhedfaa
open Go.RowKit

theorem D.kept_nil (ks : List Bool) : D.kept [] ks = [] := by cases ks <;> rfl

theorem kept_len : ∀ (l : List (Int × List UInt8)) (ks : List Bool) (k : Nat), (D.kept (l.take k) ks).length ≤ l.length
  | [], ks, k => by simp [D.kept_nil]
  | x :: r, ks, 0 => by simp [D.kept_nil]
  | x :: r, [], k + 1 => by simp [D.kept]
  | x :: r, b :: s, k + 1 => by
    have ih := kept_len r s k
    rw [List.take_succ_cons, D.kept]
    cases b
    · simp; omega
    · simp; omega

set_option maxRecDepth 100000 in
set_option maxHeartbeats 3200000 in
theorem ref_restart (r : Ref4) (X : Nat → Prop) (sv wv kv : Value) (ks : List Bool) (w : World) (h : RefAt w X r sv wv) (hk : Reads w kv (ks.map Value.bool)) (hn : r.safe.length + r.wait.length ≤ 1000000) :
    Calls Try.prog 55 #[rv r sv wv, kv] w fun e w' => RefOut1 w w' X (R4.restart r ks) e := by
  obtain ⟨i0, z, hi0, hz0, hz1, hz2, hz3⟩ := info_w4
  have hksl := hk.length_le
  obtain ⟨ka, kc, rfl⟩ := hk.shape
  rw [List.length_map] at *
  have HK := Lib.hid hk
  clear hk
  unfold R4.restart RefOut1
  obtain ⟨n, safe, wait, armed, down, after⟩ := r
  simp only at hn
  have HS := Lib.hid h.safe
  have HW := Lib.hid h.wait
  have HSX := Lib.hid h.sX
  have hwl := h.wait.len
  obtain ⟨sa, sn, sc, hsv⟩ := h.safe.any
  obtain ⟨wa, wc', hwv⟩ := h.wait.shape
  subst hsv
  subst hwv
  clear h
  simp only at hwl HS HW HSX
  unfold rv
  simp only
  have hx1 := (Ext.of_alloc w (.cells #[.int .i64 n, .slice sa sn sc, .slice wa wait.length wc', .bool armed, .bool down, .int .i64 after] 55)).alloc (.cells #[.int .i64 0, .slice none 0 0, .slice none 0 0, .bool false, .bool false, .int .i64 0] 55)
  obtain ⟨hb1, hb2⟩ := two_boxes w #[.int .i64 n, .slice sa sn sc, .slice wa wait.length wc', .bool armed, .bool down, .int .i64 after] #[.int .i64 0, .slice none 0 0, .slice none 0 0, .bool false, .bool false, .int .i64 0] 55 55 (Ext.refl _)
  have HX1 := Lib.hid hx1
  have HB1 := Lib.hid hb1
  have HB2 := Lib.hid hb2
  clear hx1 hb1 hb2
  go_enter Try.func55, Try.ntmps55
  go_wp2_with fail
  generalize (w.alloc (.cells #[.int .i64 n, .slice sa sn sc, .slice wa wait.length wc', .bool armed, .bool down, .int .i64 after] 55)).alloc (.cells #[.int .i64 0, .slice none 0 0, .slice none 0 0, .bool false, .bool false, .int .i64 0] 55) = w1 at *
  go_loopw [5, 6] (fun ov iv wr => ∃ k : Nat, k ≤ wait.length ∧ iv = .int .i64 k ∧ Hid (wr.ownsRow w1.heap.size 107 2 ov (D.kept (wait.take k) ks).length ((D.kept (wait.take k) ks).flatMap wc)) ∧ Hid (Ext w1 wr)) (fun _ iv _ => wait.length - (intOf iv).toNat)
  case atStart => exact ⟨0, by omega, rfl, by simp only [List.take_zero, D.kept_nil]; exact World.ownsRow_nil _ _ _ _, Ext.refl w1⟩
  case round =>
    obtain ⟨k, hk, rfl, hown, hx⟩ := hrel
    have hbk := blk_mod (F := fun _ => False) HB1.out (Mod.of_ext hx.out) (fun h => h)
    obtain ⟨c0, c1, c2, c3, c4, c5, f0, f1, f2, f3, f4, f5⟩ := box_facts hbk
    clear hbk
    have hkl : (D.kept (wait.take k) ks).length ≤ wait.length := kept_len wait ks k
    by_cases hlt : k < wait.length
    · have hlti : (k : Int) < (wait.length : Int) := by omega
      have hkt := D.kept_take wait ks k hlt
      obtain ⟨g, cp, heq, _, _, hcp, hcm, hrg⟩ := own_range (HW.out.ext (HX1.out.trans hx.out)) (fun x _ => wc_len x) (by decide) k hlt
      simp only [Value.slice.injEq] at heq
      obtain ⟨rfl, _, rfl⟩ := heq
      have hr := hrg k hlt
      have hck : wr.cell? ⟨g, k * 2, none⟩ = some (.int .i64 wait[k].1) := hr 0 _ rfl
      have hcs : wr.cell? ⟨g, k * 2 + 1, none⟩ = some (strV wait[k].2) := hr 1 _ rfl
      unfold strV at hcs
      generalize wait[k] = x at *
      obtain ⟨xi, xs⟩ := x
      simp only at hck hcs
      have HKT := Lib.hid hkt
      clear hrg hr hkt
      have hs1 := HX1.out.size
      have hs2 := hx.out.size
      by_cases hkk : ks.getD k false = true
      · have hkl2 : k < ks.length := by
          rcases Nat.lt_or_ge k ks.length with h' | h'
          · exact h'
          · rw [List.getD_eq_getElem?_getD, List.getElem?_eq_none h'] at hkk; cases hkk
        have hkl2i : (k : Int) < (ks.length : Int) := by omega
        obtain ⟨b2, o2, rfl, hcq⟩ := (HK.out.ext (HX1.out.trans hx.out)).at k (by rw [List.length_map]; exact hkl2)
        rw [List.getElem_map] at hcq
        have hkt : ks[k] = true := by rw [List.getD_eq_getElem?_getD, List.getElem?_eq_getElem hkl2] at hkk; exact hkk
        rw [hkt] at hcq
        have hkt2 := HKT.out
        rw [if_pos hkk] at hkt2
        have HK2 := Lib.hid hkt2
        have HRO := Lib.hid (RowIn.one wr xi xs)
        have HO2 := Lib.hid ((Ext.of_alloc wr (.cells #[.int .i64 xi, .string ⟨xs.toArray⟩] 107)).keptOwn hown.out)
        have HXR := Lib.hid (hx.out.alloc (.cells #[.int .i64 xi, .string ⟨xs.toArray⟩] 107))
        clear hkk hkt hkt2 hown hx
        go_wp2_with (first
          | ((with_reducible show wpList _ _ _ (⟨some 31, _, _, _, _, _⟩ :: _) _ _); refine wpl_append_row _ rfl _ _ 53 rfl w1.heap.size 107 i0 z 2 24 Try.underlying53 hi0 hz0 hz1 hz2 hz3 (by omega) _ _ _ (by rfl) HO2.out (.slice (some ⟨wr.heap.size, 0, none⟩) 1 1) 1 ([(xi, xs)].flatMap wc) 0 (by rfl) HRO.out (wc_one [(xi, xs)]) (by unfold maxLen; omega) (by omega) HXR.out.size ?_; intro v1 w3 hown3 hgrow3; have HX3 := Lib.hid (HXR.out.grown hgrow3 (fun q hq => (HO2.out.lt q hq).1)); have HO3 := Lib.hid hown3; clear hown3 hgrow3)
          | fail)
        go_roundw
        case rel =>
          refine ⟨k + 1, by omega, by go_num, ?_, HX3⟩
          have h := HO3.out
          rw [← List.flatMap_append] at h
          rw [HK2.out, List.length_append]
          exact h
        case measure => (simp [intOf]; try omega)
      · have hkt2 := HKT.out
        rw [if_neg hkk, List.append_nil] at hkt2
        have HO3 := Lib.hid (show wr.ownsRow w1.heap.size 107 2 u5 (D.kept (wait.take (k + 1)) ks).length ((D.kept (wait.take (k + 1)) ks).flatMap wc) by rw [hkt2]; exact hown.out)
        by_cases hkl2 : k < ks.length
        · have hkl2i : (k : Int) < (ks.length : Int) := by omega
          obtain ⟨b2, o2, rfl, hcq⟩ := (HK.out.ext (HX1.out.trans hx.out)).at k (by rw [List.length_map]; exact hkl2)
          rw [List.getElem_map] at hcq
          have hkt : ks[k] = false := by
            rw [List.getD_eq_getElem?_getD, List.getElem?_eq_getElem hkl2] at hkk
            simpa using hkk
          rw [hkt] at hcq
          clear hkk hkt hkt2 hown HKT
          go_wp2
          go_roundw
          case rel => exact ⟨k + 1, by omega, by go_num, HO3, hx⟩
          case measure => (simp [intOf]; try omega)
        · have hkl2i : ¬ (k : Int) < (ks.length : Int) := by omega
          clear hkk hkt2 hown HKT
          go_wp2
          go_roundw
          case rel => exact ⟨k + 1, by omega, by go_num, HO3, hx⟩
          case measure => (simp [intOf]; try omega)
    · obtain rfl : k = wait.length := by omega
      have hor := hown.out
      rw [List.take_of_length_le (Nat.le_refl _)] at hor hkl
      have HOR := Lib.hid (show RowIn wr u5 (D.kept wait ks) from ownsRow_base hor (fun k _ => Nat.zero_le k))
      have hlen : safe.length + (D.kept wait ks).length ≤ 1000000 := by omega
      have HBR := Lib.hid (blk_mod (F := fun _ => False) HB2.out (Mod.of_ext hx.out) (fun h => h))
      have HXA := Lib.hid (HX1.out.trans hx.out)
      have hSr := HXA.out.size
      have hb2lt : w.heap.size + 1 < wr.heap.size := blk_lt HBR.out
      replace HS := Lib.hid (HS.out.ext HXA.out)
      clear hor hown hx
      go_wp2_with fail
      have hHeld : Ext wr wr.drew := Ext.of_drew wr
      have hHeld0 := hHeld
      refine wp_region_C (fun w' => Ext wr w') 7 (by kernel_rfl) ?_
      (refine wpAnyC_take [1, 6, 7] (i := 0) (oi := ⟨some 32, _, _, _, _, _⟩) (v := ?_) rfl (by kernel_rfl) (by kernel_rfl) (by kernel_rfl) (by kernel_rfl) (fun _ _ _ h => h) (Or.inl ⟨by rfl, ?_⟩) hHeld ?_; rotate_left; (focus (intro w hSw; (skip); go_simp; first | done | with_reducible rfl)); try simp only [Act.put, List.setIfInBounds_toArray, List.set_cons_zero, List.set_cons_succ])
      (refine wpAnyC_take [6, 7] (i := 1) (oi := ⟨some 33, _, _, _, _, _⟩) (v := ?_) rfl (by kernel_rfl) (by kernel_rfl) (by kernel_rfl) (by kernel_rfl) (fun _ _ _ h => h) (Or.inl ⟨by rfl, ?_⟩) hHeld ?_; rotate_left; (focus (intro w hSw; (have q := hSw.cell c0); go_simp; first | done | with_reducible rfl)); try simp only [Act.put, List.setIfInBounds_toArray, List.set_cons_zero, List.set_cons_succ])
      (refine wpAnyC_take [3, 5, 6, 7] (i := 2) (oi := ⟨some 34, _, _, _, _, _⟩) (v := ?_) rfl (by kernel_rfl) (by kernel_rfl) (by kernel_rfl) (by kernel_rfl) (fun _ _ _ h => h) (Or.inl ⟨by rfl, ?_⟩) hHeld ?_; rotate_left; (focus (intro w hSw; (skip); go_simp; first | done | with_reducible rfl)); try simp only [Act.put, List.setIfInBounds_toArray, List.set_cons_zero, List.set_cons_succ])
      (refine wpAnyC_take [5, 6, 7] (i := 3) (oi := ⟨some 35, _, _, _, _, _⟩) (v := ?_) rfl (by kernel_rfl) (by kernel_rfl) (by kernel_rfl) (by kernel_rfl) (fun _ _ _ h => h) (Or.inl ⟨by rfl, ?_⟩) hHeld ?_; rotate_left; (focus (intro w hSw; (have q := hSw.cell c1); go_simp; first | done | with_reducible rfl)); try simp only [Act.put, List.setIfInBounds_toArray, List.set_cons_zero, List.set_cons_succ])
      (refine wpAnyC_take [5, 6, 7] (i := 4) (oi := ⟨some 36, _, _, _, _, _⟩) (v := ?_) rfl (by kernel_rfl) (by kernel_rfl) (by kernel_rfl) (by kernel_rfl) (fun _ _ _ h => h) (Or.inl ⟨by rfl, ?_⟩) hHeld ?_; rotate_left; (focus (intro w hSw; (skip); go_simp; first | done | with_reducible rfl)); try simp only [Act.put, List.setIfInBounds_toArray, List.set_cons_zero, List.set_cons_succ])
      refine wpAnyC_one (i := 5) (oi := ⟨some 37, _, _, _, _, _⟩) rfl (by kernel_rfl) (by decide) (fun K hK => ?_)
      rw [if_pos (by rfl)]
      go_simp
      refine (ref_joined _ _ safe (D.kept wait ks) _ (HS.out.ext hHeld) (HOR.out.ext hHeld) hlen).mono ?_
      rintro e w4 ⟨v, rfl, hown, hx4⟩
      refine hK.out _ _ (hHeld.trans hx4) ?_
      have hHeld2 := hHeld.trans hx4
      clear hHeld
      have hHeld := hHeld2
      clear hHeld2
      have hrow : RowIn w4 v (safe ++ D.kept wait ks) := ownsRow_base hown (fun k _ => Nat.zero_le k)
      have hvb : ∀ k, v.ownBlock = some k → wr.heap.size ≤ k ∧ k < w4.heap.size := fun k hk => ⟨Nat.le_trans hHeld0.size (hown.lt k hk).1, (hown.lt k hk).2⟩
      obtain ⟨va, vn, vc, rfl⟩ := hrow.any
      clear hK K
      try simp only [Act.put, List.setIfInBounds_toArray, List.set_cons_zero, List.set_cons_succ]
      (refine wpAnyC_take [7] (i := 6) (oi := ⟨some 38, _, _, _, _, _⟩) (v := ?_) rfl (by kernel_rfl) (by kernel_rfl) (by kernel_rfl) (by kernel_rfl) (fun _ _ _ h => h) (Or.inl ⟨by rfl, ?_⟩) hHeld ?_; rotate_left; (focus (intro w hSw; (skip); go_simp; first | done | with_reducible rfl)); try simp only [Act.put, List.setIfInBounds_toArray, List.set_cons_zero, List.set_cons_succ])
      have hb4 := blk_mod (F := fun _ => False) HBR.out (Mod.of_ext hHeld) (fun h => h)
      obtain ⟨d0, d1, d2, d3, d4, d5, g0, g1, g2, g3, g4, g5⟩ := box_facts hb4
      refine wpAnyC_c (oi := ⟨none, _, _, _, _, _⟩) rfl (by kernel_rfl) (fun K hK => ?_)
      rw [if_pos (by rfl)]
      go_simp
      refine hK.out _ _ ?_
      clear hK K
      try simp only [Act.put, List.setIfInBounds_toArray, List.set_cons_zero, List.set_cons_succ]
      refine wpAny_done (by kernel_rfl) ?_ _
      have hb5 := blk_setCells (w.heap.size + 1) 55 [.int .i64 n, .slice va vn vc, .slice none 0 0, .bool false, .bool false, .int .i64 0] 0 w4 _ hb4 (by simp)
      have hm5 := mod_setCells (fun k => k = w.heap.size + 1) w4 (w.heap.size + 1) 0 [.int .i64 n, .slice va vn vc, .slice none 0 0, .bool false, .bool false, .int .i64 0] rfl
      have hsz5 := size_setCells (w.heap.size + 1) [.int .i64 n, .slice va vn vc, .slice none 0 0, .bool false, .bool false, .int .i64 0] 0 w4
      show Exit.then _ _ Exit.normal _ (w4.setCells (w.heap.size + 1) 0 [.int .i64 n, .slice va vn vc, .slice none 0 0, .bool false, .bool false, .int .i64 0])
      generalize w4.setCells (w.heap.size + 1) 0 [.int .i64 n, .slice va vn vc, .slice none 0 0, .bool false, .bool false, .int .i64 0] = w5 at *
      have HB5 := Lib.hid hb5
      have HX5 := Lib.hid (hm5.ext (HXA.out.trans hHeld) (fun k e => by omega))
      have HROW5 := Lib.hid (hrow.keeps hm5 (fun k hk e => by have h1 := hvb k hk; omega))
      clear d0 d1 d2 d3 d4 d5 g0 g1 g2 g3 g4 g5 hb5 hm5 hb4 c0 c1 c2 c3 c4 c5 f0 f1 f2 f3 f4 f5
      obtain ⟨d0, d1, d2, d3, d4, d5, g0, g1, g2, g3, g4, g5⟩ := box_facts HB5.out
      go_wp2
      refine bodyPost_ret (v := .agg #[.int .i64 n, .slice va vn vc, .slice none 0 0, .bool false, .bool false, .int .i64 0]) (by simp [results, Try.results55, go_sem, d0, d1, d2, d3, d4, d5]) rfl ⟨_, _, rfl, ⟨HROW5.out, RowIn.nil _, fun k hk => .inr ?_, fun k hk => ?_⟩, HX5.out⟩
      · have h1 := hvb k hk
        exact ⟨by omega, by omega⟩
      · simp [Value.ownBlock] at hk
end Go.Proofs.Ytmcmocakfhedfaa
