import Derived.Test.YtnjfioikpajhlaaMSt5
import Derived.Deep.QuietTactic
import Derived.BigQuiet
/- StoreRanges, the walk. -/
namespace Go.Proofs.Ytnjfioikpajhlaa
open Go.RowKit Go.Shelf

theorem string_of (s : ByteArray) : Value.string s = .string ⟨s.data.toList.toArray⟩ := by simp
set_option maxRecDepth 100000 in
set_option maxHeartbeats 6400000 in
theorem walk_ranges (sv : Value) (l : List Act6) (f c t : List UInt8) (w : World) (hs : Acts6In w sv l) :
    Calls Try.prog 4 #[sv, strV f, strV c, strV t] w fun e w' => e = .returned (.bool true) ∧ Ext w w' := by
  obtain ⟨a, cap, rfl, hll⟩ := hs.shape
  have HS := Lib.hid hs
  clear hs
  unfold strV
  go_enter Try.func4, Try.ntmps4
  go_wp2_with fail
  refine (awake6 w).mono ?_
  rintro e w1 ⟨rfl, hx1⟩
  by_cases hbad : 30 < l.length
  · have hb := begun6_bad 60 _ l w1 (HS.out.ext hx1) (.inr (.inr hbad))
    have HB := Lib.hid hb
    have HX1 := Lib.hid hx1
    have hbi : (30 : Int) < (l.length : Int) := by omega
    clear hb hx1 HS hbad
    unfold zst at HB
    go_wp2_with fail
    refine HB.out.mono ?_
    clear HB
    rintro e w2 ⟨rfl, hx2⟩
    have HX2 := Lib.hid (HX1.out.trans hx2)
    clear hx2 HX1
    go_wp2
    go_ret
    exact ⟨by simp [hbi], HX2.out.alloc _⟩
  · have hb := begun6 60 _ l w1 (HS.out.ext hx1) (by omega) (by decide) (by decide)
    have HB := Lib.hid hb
    have HX1 := Lib.hid hx1
    clear hb hx1 HS hbad
    go_wp2_with fail
    refine HB.out.mono ?_
    clear HB
    rintro e w2 ⟨p, q, S, pv, rfl, hL, hI, hown⟩
    obtain ⟨pa, pc, rfl⟩ := own_any hown
    have HL := Lib.hid (hL.after (Ext.of_alloc w2 (.cells #[.int .i64 0, .slice none 0 0, .slice none 0 0, .bool false, .bool false, .int .i64 0, .int .u32 0, .slice none 0 0, .bool false, .slice pa S.l.length pc, .int .u64 (S.num : Int), .bool false] 37)))
    have HSR := Lib.hid hI.srt
    have HPK := Lib.hid hI.pk
    clear hL hI hown
    unfold s6v gz
    go_wp2_with fail
    generalize w2.alloc (.cells _ 37) = w3 at *
    have hps := S6.range_len_le S.l f t
    have hfa := HL.out.facts.2.2.2
    have hrg := stod_range HL.out f t
    have HRG := Lib.hid hrg
    clear hrg
    refine HRG.out.mono ?_
    clear HRG
    rintro e w4 ⟨v4, us4, rfl, hP4, hx4⟩
    have hpr := pairs6_ext hP4 hx4 (by omega) (fun p hp => by have := (HPK.out p (S6.range_mem hp).1).val; omega)
    have HPR := Lib.hid hpr
    obtain ⟨a4, c4, rfl⟩ := own_any hP4.row
    clear hP4 hx4 hpr
    go_wp2_with fail
    refine HPR.out.mono ?_
    clear HPR
    rintro e w5 ⟨v5, rfl, hown5, hx5⟩
    have hRP := RPs.of_own hown5
    obtain ⟨_, a5, c5, rfl, _, hcell⟩ := hRP.shape
    have HC := Lib.hid hcell
    have HRP := Lib.hid hRP
    have HL5 := Lib.hid (HL.out.after hx5)
    have HSP := Lib.hid (S6.range_srt HSR.out f t)
    have HMEM := Lib.hid (fun p (hp : p ∈ S6.range S.l f t) => S6.range_mem hp)
    have hpsi : ((S6.range S.l f t).length : Int) ≤ 200000 := by omega
    clear hown5 hx5 hRP hcell HL
    go_wp2_with fail
    go_loopw [14] (fun iv wr => ∃ k : Nat, k ≤ (S6.range S.l f t).length ∧ iv = .int .i64 (k : Int) ∧ Hid (Ext w5 wr)) (fun iv _ => (S6.range S.l f t).length - (intOf iv).toNat)
    case atStart => exact ⟨0, by omega, rfl, Ext.refl w5⟩
    case round =>
      obtain ⟨k, hk, rfl, hX⟩ := hrel
      by_cases hlt : k < (S6.range S.l f t).length
      · have hlti : (k : Int) < ((S6.range S.l f t).length : Int) := by omega
        obtain ⟨b, off, rfl, g0, g1, g2⟩ := HC.out k hlt
        have hmem := HMEM.out _ (List.getElem_mem hlt)
        have hprev := fun j (hj : j < k) => List.pairwise_iff_getElem.1 HSP.out j k (by omega) hlt hj
        have hget := stod_get (HL5.out.after hX.out) (S6.range S.l f t)[k].key
        rw [S6.look_mem HSR.out hmem.1] at hget
        generalize hxx : (S6.range S.l f t)[k] = x at *
        clear hxx
        have hget2 : Calls Try.prog 18 #[.pointer (some ⟨q, 0, none⟩), .string ⟨x.key.toArray⟩] wr fun e w' => ∃ v' : Value, e = .returned (.tuple #[v', .int .u64 (x.ver : Int), .bool true]) ∧ Ext wr w' ∧ w'.ownsRow wr.heap.size 5 1 v' x.val.length (x.val.map byteVal) := hget
        have HG := Lib.hid hget2
        have bxf := bytesLess_eq x.key f
        rw [decide_eq_false hmem.2.1] at bxf
        have bxt := bytesLess_eq x.key t
        have c0 := hX.out.cell g0
        unfold strV at c0
        clear hget hget2
        go_wp2_with fail
        refine HG.out.mono ?_
        clear HG
        rintro e w6 ⟨v6, rfl, hx6, hr6⟩
        have hb6 : Bs w6 v6 x.val := Bs.of_own hr6
        have cv : ∀ W, Ext w6 W → (convert 59 9 v6).run Try.prog W = .ok (.string ⟨x.val.toArray⟩) W := fun W hW => (hb6.ext hW).toString (P := Try.prog) 59 9 5 Try.underlying59 Try.underlying5 Try.underlying9
        have d0 := hx6.cell c0
        have d1 := (hX.out.trans hx6).cell g1
        have d2 := (hX.out.trans hx6).cell g2
        unfold strV at d1
        have HX6 := Lib.hid (hX.out.trans hx6)
        obtain ⟨a6, c6, h6⟩ := hb6.shape
        subst h6
        clear c0 g0 g1 g2 hx6 hr6 hb6 hX
        go_upto_region 11 with fail
        by_cases hk0 : k = 0
        · subst hk0
          clear hprev
          have f0 : w6.cell? ⟨b, off, none⟩ = some (.string ⟨x.key.toArray⟩) := by simpa using d0
          have f1 : w6.cell? ⟨b, off + 1, none⟩ = some (.string ⟨x.val.toArray⟩) := by simpa using d1
          have f2 : w6.cell? ⟨b, off + 2, none⟩ = some (.int .u64 (x.ver : Int)) := by simpa using d2
          have e0 : decide ((0 : Int) < ((0 : Nat) : Int)) = false := by decide
          by_cases k3 : t = []
          · subst k3
            clear bxt
            have hHeld := Ext.of_drew w6
            refine wp_region_C (fun w' => Ext w6 w') 60 (by kernel_rfl) ?_
            (refine wpAnyC_take [1, 2, 16, 26, 35, 39, 48, 60] (i := 0) (oi := ⟨some 55, _, _, _, _, _⟩) (v := ?_) rfl (by kernel_rfl) (by kernel_rfl) (by kernel_rfl) (by kernel_rfl) (fun _ _ _ h => h) (Or.inl ⟨by rfl, ?_⟩) hHeld ?_; rotate_left; (focus (intro w hSw; (skip); go_simp; first | done | with_reducible rfl)); try simp only [Act.put, List.setIfInBounds_toArray, List.set_cons_zero, List.set_cons_succ])
            (refine wpAnyC_take [2, 16, 26, 35, 39, 48, 60] (i := 1) (oi := ⟨some 56, _, _, _, _, _⟩) (v := ?_) rfl (by kernel_rfl) (by kernel_rfl) (by kernel_rfl) (by kernel_rfl) (fun _ _ _ h => h) (Or.inl ⟨by rfl, ?_⟩) hHeld ?_; rotate_left; (focus (intro w hSw; (skip); go_simp; first | done | with_reducible rfl)); try simp only [Act.put, List.setIfInBounds_toArray, List.set_cons_zero, List.set_cons_succ])
            (refine wpAnyC_take [16, 26, 35, 39, 48, 60] (i := 2) (oi := ⟨some 57, _, _, _, _, _⟩) (v := ?_) rfl (by kernel_rfl) (by kernel_rfl) (by kernel_rfl) (by kernel_rfl) (fun _ _ _ h => h) (Or.inl ⟨by rfl, ?_⟩) hHeld ?_; rotate_left; (focus (intro w hSw; (skip); go_simp; first | done | with_reducible rfl)); try simp only [Act.put, List.setIfInBounds_toArray, List.set_cons_zero, List.set_cons_succ])
            (refine wpAnyC_take [6, 7, 8, 14, 15, 16, 26, 35, 39, 48, 60] (i := 3) (oi := ⟨some 58, _, _, _, _, _⟩) (v := undef) rfl (by kernel_rfl) (by kernel_rfl) (by kernel_rfl) (by kernel_rfl) (fun _ _ _ h => h) (Or.inr ⟨by rfl, rfl⟩) hHeld ?_; try simp only [Act.put, List.setIfInBounds_toArray, List.set_cons_zero, List.set_cons_succ])
            (refine wpAnyC_take [5, 6, 7, 8, 14, 15, 16, 26, 35, 39, 48, 60] (i := 4) (oi := ⟨some 59, _, _, _, _, _⟩) (v := undef) rfl (by kernel_rfl) (by kernel_rfl) (by kernel_rfl) (by kernel_rfl) (fun _ _ _ h => h) (Or.inr ⟨by rfl, rfl⟩) hHeld ?_; try simp only [Act.put, List.setIfInBounds_toArray, List.set_cons_zero, List.set_cons_succ])
            (refine wpAnyC_take [6, 7, 8, 14, 15, 16, 26, 35, 39, 48, 60] (i := 5) (oi := ⟨some 60, _, _, _, _, _⟩) (v := undef) rfl (by kernel_rfl) (by kernel_rfl) (by kernel_rfl) (by kernel_rfl) (fun _ _ _ h => h) (Or.inr ⟨by rfl, rfl⟩) hHeld ?_; try simp only [Act.put, List.setIfInBounds_toArray, List.set_cons_zero, List.set_cons_succ])
            (refine wpAnyC_take [7, 8, 14, 15, 16, 26, 35, 39, 48, 60] (i := 6) (oi := ⟨some 61, _, _, _, _, _⟩) (v := undef) rfl (by kernel_rfl) (by kernel_rfl) (by kernel_rfl) (by kernel_rfl) (fun _ _ _ h => h) (Or.inr ⟨by rfl, rfl⟩) hHeld ?_; try simp only [Act.put, List.setIfInBounds_toArray, List.set_cons_zero, List.set_cons_succ])
            (refine wpAnyC_take [8, 14, 15, 16, 26, 35, 39, 48, 60] (i := 7) (oi := ⟨some 62, _, _, _, _, _⟩) (v := undef) rfl (by kernel_rfl) (by kernel_rfl) (by kernel_rfl) (by kernel_rfl) (fun _ _ _ h => h) (Or.inr ⟨by rfl, rfl⟩) hHeld ?_; try simp only [Act.put, List.setIfInBounds_toArray, List.set_cons_zero, List.set_cons_succ])
            (refine wpAnyC_take [14, 15, 16, 26, 35, 39, 48, 60] (i := 8) (oi := ⟨some 63, _, _, _, _, _⟩) (v := undef) rfl (by kernel_rfl) (by kernel_rfl) (by kernel_rfl) (by kernel_rfl) (fun _ _ _ h => h) (Or.inr ⟨by rfl, rfl⟩) hHeld ?_; try simp only [Act.put, List.setIfInBounds_toArray, List.set_cons_zero, List.set_cons_succ])
            (refine wpAnyC_take [11, 12, 13, 14, 15, 16, 26, 35, 39, 48, 60] (i := 9) (oi := ⟨some 64, _, _, _, _, _⟩) (v := undef) rfl (by kernel_rfl) (by kernel_rfl) (by kernel_rfl) (by kernel_rfl) (fun _ _ _ h => h) (Or.inr ⟨by rfl, rfl⟩) hHeld ?_; try simp only [Act.put, List.setIfInBounds_toArray, List.set_cons_zero, List.set_cons_succ])
            (refine wpAnyC_take [11, 12, 13, 14, 15, 16, 26, 35, 39, 48, 60] (i := 10) (oi := ⟨some 65, _, _, _, _, _⟩) (v := undef) rfl (by kernel_rfl) (by kernel_rfl) (by kernel_rfl) (by kernel_rfl) (fun _ _ _ h => h) (Or.inr ⟨by rfl, rfl⟩) hHeld ?_; try simp only [Act.put, List.setIfInBounds_toArray, List.set_cons_zero, List.set_cons_succ])
            (refine wpAnyC_take [12, 13, 14, 15, 16, 26, 35, 39, 48, 60] (i := 11) (oi := ⟨some 66, _, _, _, _, _⟩) (v := undef) rfl (by kernel_rfl) (by kernel_rfl) (by kernel_rfl) (by kernel_rfl) (fun _ _ _ h => h) (Or.inr ⟨by rfl, rfl⟩) hHeld ?_; try simp only [Act.put, List.setIfInBounds_toArray, List.set_cons_zero, List.set_cons_succ])
            (refine wpAnyC_take [13, 14, 15, 16, 26, 35, 39, 48, 60] (i := 12) (oi := ⟨some 67, _, _, _, _, _⟩) (v := undef) rfl (by kernel_rfl) (by kernel_rfl) (by kernel_rfl) (by kernel_rfl) (fun _ _ _ h => h) (Or.inr ⟨by rfl, rfl⟩) hHeld ?_; try simp only [Act.put, List.setIfInBounds_toArray, List.set_cons_zero, List.set_cons_succ])
            (refine wpAnyC_take [14, 15, 16, 26, 35, 39, 48, 60] (i := 13) (oi := ⟨some 68, _, _, _, _, _⟩) (v := undef) rfl (by kernel_rfl) (by kernel_rfl) (by kernel_rfl) (by kernel_rfl) (fun _ _ _ h => h) (Or.inr ⟨by rfl, rfl⟩) hHeld ?_; try simp only [Act.put, List.setIfInBounds_toArray, List.set_cons_zero, List.set_cons_succ])
            (refine wpAnyC_take [15, 16, 26, 35, 39, 48, 60] (i := 14) (oi := ⟨some 69, _, _, _, _, _⟩) (v := undef) rfl (by kernel_rfl) (by kernel_rfl) (by kernel_rfl) (by kernel_rfl) (fun _ _ _ h => h) (Or.inr ⟨by rfl, rfl⟩) hHeld ?_; try simp only [Act.put, List.setIfInBounds_toArray, List.set_cons_zero, List.set_cons_succ])
            (refine wpAnyC_take [16, 26, 35, 39, 48, 60] (i := 15) (oi := ⟨some 70, _, _, _, _, _⟩) (v := ?_) rfl (by kernel_rfl) (by kernel_rfl) (by kernel_rfl) (by kernel_rfl) (fun _ _ _ h => h) (Or.inl ⟨by rfl, ?_⟩) hHeld ?_; rotate_left; (focus (intro w hSw; (skip); go_simp; first | done | with_reducible rfl)); try simp only [Act.put, List.setIfInBounds_toArray, List.set_cons_zero, List.set_cons_succ])
            (refine wpAnyC_take [26, 35, 39, 48, 60] (i := 16) (oi := ⟨some 71, _, _, _, _, _⟩) (v := ?_) rfl (by kernel_rfl) (by kernel_rfl) (by kernel_rfl) (by kernel_rfl) (fun _ _ _ h => h) (Or.inl ⟨by rfl, ?_⟩) hHeld ?_; rotate_left; (focus (intro w hSw; (skip); go_simp; first | done | with_reducible rfl)); try simp only [Act.put, List.setIfInBounds_toArray, List.set_cons_zero, List.set_cons_succ])
            (refine wpAnyC_take [18, 24, 25, 26, 35, 39, 48, 60] (i := 17) (oi := ⟨some 72, _, _, _, _, _⟩) (v := ?_) rfl (by kernel_rfl) (by kernel_rfl) (by kernel_rfl) (by kernel_rfl) (fun _ _ _ h => h) (Or.inl ⟨by rfl, ?_⟩) hHeld ?_; rotate_left; (focus (intro w hSw; (skip); go_simp; first | done | with_reducible rfl)); try simp only [Act.put, List.setIfInBounds_toArray, List.set_cons_zero, List.set_cons_succ])
            (refine wpAnyC_take [24, 25, 26, 35, 39, 48, 60] (i := 18) (oi := ⟨some 73, _, _, _, _, _⟩) (v := ?_) rfl (by kernel_rfl) (by kernel_rfl) (by kernel_rfl) (by kernel_rfl) (fun _ _ _ h => h) (Or.inl ⟨by rfl, ?_⟩) hHeld ?_; rotate_left; (focus (intro w hSw; ((have q := cv _ hSw)); go_simp; first | done | with_reducible rfl)); try simp only [Act.put, List.setIfInBounds_toArray, List.set_cons_zero, List.set_cons_succ])
            (refine wpAnyC_take [21, 22, 23, 24, 25, 26, 35, 39, 48, 60] (i := 19) (oi := ⟨some 74, _, _, _, _, _⟩) (v := ?_) rfl (by kernel_rfl) (by kernel_rfl) (by kernel_rfl) (by kernel_rfl) (fun _ _ _ h => h) (Or.inl ⟨by rfl, ?_⟩) hHeld ?_; rotate_left; (focus (intro w hSw; (skip); go_simp; first | done | with_reducible rfl)); try simp only [Act.put, List.setIfInBounds_toArray, List.set_cons_zero, List.set_cons_succ])
            (refine wpAnyC_take [21, 22, 23, 24, 25, 26, 35, 39, 48, 60] (i := 20) (oi := ⟨some 75, _, _, _, _, _⟩) (v := ?_) rfl (by kernel_rfl) (by kernel_rfl) (by kernel_rfl) (by kernel_rfl) (fun _ _ _ h => h) (Or.inl ⟨by rfl, ?_⟩) hHeld ?_; rotate_left; (focus (intro w hSw; (skip); go_simp; first | done | with_reducible rfl)); try simp only [Act.put, List.setIfInBounds_toArray, List.set_cons_zero, List.set_cons_succ])
            (refine wpAnyC_take [22, 23, 24, 25, 26, 35, 39, 48, 60] (i := 21) (oi := ⟨some 76, _, _, _, _, _⟩) (v := ?_) rfl (by kernel_rfl) (by kernel_rfl) (by kernel_rfl) (by kernel_rfl) (fun _ _ _ h => h) (Or.inl ⟨by rfl, ?_⟩) hHeld ?_; rotate_left; (focus (intro w hSw; (skip); go_simp; first | done | with_reducible rfl)); try simp only [Act.put, List.setIfInBounds_toArray, List.set_cons_zero, List.set_cons_succ])
            (refine wpAnyC_take [23, 24, 25, 26, 35, 39, 48, 60] (i := 22) (oi := ⟨some 77, _, _, _, _, _⟩) (v := ?_) rfl (by kernel_rfl) (by kernel_rfl) (by kernel_rfl) (by kernel_rfl) (fun _ _ _ h => h) (Or.inl ⟨by rfl, ?_⟩) hHeld ?_; rotate_left; (focus (intro w hSw; (skip); go_simp; first | done | with_reducible rfl)); try simp only [Act.put, List.setIfInBounds_toArray, List.set_cons_zero, List.set_cons_succ])
            (refine wpAnyC_take [24, 25, 26, 35, 39, 48, 60] (i := 23) (oi := ⟨some 78, _, _, _, _, _⟩) (v := ?_) rfl (by kernel_rfl) (by kernel_rfl) (by kernel_rfl) (by kernel_rfl) (fun _ _ _ h => h) (Or.inl ⟨by rfl, ?_⟩) hHeld ?_; rotate_left; (focus (intro w hSw; ((have q := hSw.cell d1; have q2 := hSw.cell f1)); go_simp; first | done | with_reducible rfl)); try simp only [Act.put, List.setIfInBounds_toArray, List.set_cons_zero, List.set_cons_succ])
            (refine wpAnyC_take [25, 26, 35, 39, 48, 60] (i := 24) (oi := ⟨some 79, _, _, _, _, _⟩) (v := ?_) rfl (by kernel_rfl) (by kernel_rfl) (by kernel_rfl) (by kernel_rfl) (fun _ _ _ h => h) (Or.inl ⟨by rfl, ?_⟩) hHeld ?_; rotate_left; (focus (intro w hSw; (skip); go_simp; first | done | with_reducible rfl)); try simp only [Act.put, List.setIfInBounds_toArray, List.set_cons_zero, List.set_cons_succ])
            (refine wpAnyC_take [26, 35, 39, 48, 60] (i := 25) (oi := ⟨some 80, _, _, _, _, _⟩) (v := ?_) rfl (by kernel_rfl) (by kernel_rfl) (by kernel_rfl) (by kernel_rfl) (fun _ _ _ h => h) (Or.inl ⟨by rfl, ?_⟩) hHeld ?_; rotate_left; (focus (intro w hSw; (skip); go_simp; first | done | with_reducible rfl)); try simp only [Act.put, List.setIfInBounds_toArray, List.set_cons_zero, List.set_cons_succ])
            (refine wpAnyC_take [35, 39, 48, 60] (i := 26) (oi := ⟨some 81, _, _, _, _, _⟩) (v := ?_) rfl (by kernel_rfl) (by kernel_rfl) (by kernel_rfl) (by kernel_rfl) (fun _ _ _ h => h) (Or.inl ⟨by rfl, ?_⟩) hHeld ?_; rotate_left; (focus (intro w hSw; (skip); go_simp; first | done | with_reducible rfl)); try simp only [Act.put, List.setIfInBounds_toArray, List.set_cons_zero, List.set_cons_succ])
            (refine wpAnyC_take [33, 34, 35, 39, 48, 60] (i := 27) (oi := ⟨some 82, _, _, _, _, _⟩) (v := ?_) rfl (by kernel_rfl) (by kernel_rfl) (by kernel_rfl) (by kernel_rfl) (fun _ _ _ h => h) (Or.inl ⟨by rfl, ?_⟩) hHeld ?_; rotate_left; (focus (intro w hSw; (skip); go_simp; first | done | with_reducible rfl)); try simp only [Act.put, List.setIfInBounds_toArray, List.set_cons_zero, List.set_cons_succ])
            (refine wpAnyC_take [30, 31, 32, 33, 34, 35, 39, 48, 60] (i := 28) (oi := ⟨some 83, _, _, _, _, _⟩) (v := ?_) rfl (by kernel_rfl) (by kernel_rfl) (by kernel_rfl) (by kernel_rfl) (fun _ _ _ h => h) (Or.inl ⟨by rfl, ?_⟩) hHeld ?_; rotate_left; (focus (intro w hSw; (skip); go_simp; first | done | with_reducible rfl)); try simp only [Act.put, List.setIfInBounds_toArray, List.set_cons_zero, List.set_cons_succ])
            (refine wpAnyC_take [30, 31, 32, 33, 34, 35, 39, 48, 60] (i := 29) (oi := ⟨some 84, _, _, _, _, _⟩) (v := ?_) rfl (by kernel_rfl) (by kernel_rfl) (by kernel_rfl) (by kernel_rfl) (fun _ _ _ h => h) (Or.inl ⟨by rfl, ?_⟩) hHeld ?_; rotate_left; (focus (intro w hSw; (skip); go_simp; first | done | with_reducible rfl)); try simp only [Act.put, List.setIfInBounds_toArray, List.set_cons_zero, List.set_cons_succ])
            (refine wpAnyC_take [31, 32, 33, 34, 35, 39, 48, 60] (i := 30) (oi := ⟨some 85, _, _, _, _, _⟩) (v := ?_) rfl (by kernel_rfl) (by kernel_rfl) (by kernel_rfl) (by kernel_rfl) (fun _ _ _ h => h) (Or.inl ⟨by rfl, ?_⟩) hHeld ?_; rotate_left; (focus (intro w hSw; (skip); go_simp; first | done | with_reducible rfl)); try simp only [Act.put, List.setIfInBounds_toArray, List.set_cons_zero, List.set_cons_succ])
            (refine wpAnyC_take [32, 33, 34, 35, 39, 48, 60] (i := 31) (oi := ⟨some 86, _, _, _, _, _⟩) (v := ?_) rfl (by kernel_rfl) (by kernel_rfl) (by kernel_rfl) (by kernel_rfl) (fun _ _ _ h => h) (Or.inl ⟨by rfl, ?_⟩) hHeld ?_; rotate_left; (focus (intro w hSw; (skip); go_simp; first | done | with_reducible rfl)); try simp only [Act.put, List.setIfInBounds_toArray, List.set_cons_zero, List.set_cons_succ])
            (refine wpAnyC_take [33, 34, 35, 39, 48, 60] (i := 32) (oi := ⟨some 87, _, _, _, _, _⟩) (v := ?_) rfl (by kernel_rfl) (by kernel_rfl) (by kernel_rfl) (by kernel_rfl) (fun _ _ _ h => h) (Or.inl ⟨by rfl, ?_⟩) hHeld ?_; rotate_left; (focus (intro w hSw; ((have q := hSw.cell d2; have q2 := hSw.cell f2)); go_simp; first | done | with_reducible rfl)); try simp only [Act.put, List.setIfInBounds_toArray, List.set_cons_zero, List.set_cons_succ])
            (refine wpAnyC_take [34, 35, 39, 48, 60] (i := 33) (oi := ⟨some 88, _, _, _, _, _⟩) (v := ?_) rfl (by kernel_rfl) (by kernel_rfl) (by kernel_rfl) (by kernel_rfl) (fun _ _ _ h => h) (Or.inl ⟨by rfl, ?_⟩) hHeld ?_; rotate_left; (focus (intro w hSw; (skip); go_simp; first | done | with_reducible rfl)); try simp only [Act.put, List.setIfInBounds_toArray, List.set_cons_zero, List.set_cons_succ])
            (refine wpAnyC_take [35, 39, 48, 60] (i := 34) (oi := ⟨some 89, _, _, _, _, _⟩) (v := ?_) rfl (by kernel_rfl) (by kernel_rfl) (by kernel_rfl) (by kernel_rfl) (fun _ _ _ h => h) (Or.inl ⟨by rfl, ?_⟩) hHeld ?_; rotate_left; (focus (intro w hSw; (skip); go_simp; first | done | with_reducible rfl)); try simp only [Act.put, List.setIfInBounds_toArray, List.set_cons_zero, List.set_cons_succ])
            (refine wpAnyC_take [39, 48, 60] (i := 35) (oi := ⟨some 90, _, _, _, _, _⟩) (v := ?_) rfl (by kernel_rfl) (by kernel_rfl) (by kernel_rfl) (by kernel_rfl) (fun _ _ _ h => h) (Or.inl ⟨by rfl, ?_⟩) hHeld ?_; rotate_left; (focus (intro w hSw; (skip); go_simp; first | done | with_reducible rfl)); try simp only [Act.put, List.setIfInBounds_toArray, List.set_cons_zero, List.set_cons_succ])
            (refine wpAnyC_take [37, 38, 39, 48, 60] (i := 36) (oi := ⟨some 91, _, _, _, _, _⟩) (v := ?_) rfl (by kernel_rfl) (by kernel_rfl) (by kernel_rfl) (by kernel_rfl) (fun _ _ _ h => h) (Or.inl ⟨by rfl, ?_⟩) hHeld ?_; rotate_left; (focus (intro w hSw; (skip); go_simp; first | done | with_reducible rfl)); try simp only [Act.put, List.setIfInBounds_toArray, List.set_cons_zero, List.set_cons_succ])
            (refine wpAnyC_take [38, 39, 48, 60] (i := 37) (oi := ⟨some 92, _, _, _, _, _⟩) (v := ?_) rfl (by kernel_rfl) (by kernel_rfl) (by kernel_rfl) (by kernel_rfl) (fun _ _ _ h => h) (Or.inl ⟨by rfl, ?_⟩) hHeld ?_; rotate_left; (focus (intro w hSw; (skip); go_simp; first | done | with_reducible rfl)); try simp only [Act.put, List.setIfInBounds_toArray, List.set_cons_zero, List.set_cons_succ])
            (refine wpAnyC_take [39, 48, 60] (i := 38) (oi := ⟨some 93, _, _, _, _, _⟩) (v := ?_) rfl (by kernel_rfl) (by kernel_rfl) (by kernel_rfl) (by kernel_rfl) (fun _ _ _ h => h) (Or.inl ⟨by rfl, ?_⟩) hHeld ?_; rotate_left; (focus (intro w hSw; (skip); go_simp; first | done | with_reducible rfl)); try simp only [Act.put, List.setIfInBounds_toArray, List.set_cons_zero, List.set_cons_succ])
            (refine wpAnyC_take [48, 60] (i := 39) (oi := ⟨some 94, _, _, _, _, _⟩) (v := ?_) rfl (by kernel_rfl) (by kernel_rfl) (by kernel_rfl) (by kernel_rfl) (fun _ _ _ h => h) (Or.inl ⟨by rfl, ?_⟩) hHeld ?_; rotate_left; (focus (intro w hSw; (skip); go_simp; first | done | with_reducible rfl)); try simp only [Act.put, List.setIfInBounds_toArray, List.set_cons_zero, List.set_cons_succ])
            (refine wpAnyC_take [42, 43, 44, 46, 47, 48, 60] (i := 40) (oi := ⟨some 95, _, _, _, _, _⟩) (v := ?_) rfl (by kernel_rfl) (by kernel_rfl) (by kernel_rfl) (by kernel_rfl) (fun _ _ _ h => h) (Or.inl ⟨by rfl, ?_⟩) hHeld ?_; rotate_left; (focus (intro w hSw; (skip); go_simp; first | done | with_reducible rfl)); try simp only [Act.put, List.setIfInBounds_toArray, List.set_cons_zero, List.set_cons_succ])
            (refine wpAnyC_take [42, 43, 44, 46, 47, 48, 60] (i := 41) (oi := ⟨some 96, _, _, _, _, _⟩) (v := ?_) rfl (by kernel_rfl) (by kernel_rfl) (by kernel_rfl) (by kernel_rfl) (fun _ _ _ h => h) (Or.inl ⟨by rfl, ?_⟩) hHeld ?_; rotate_left; (focus (intro w hSw; (skip); go_simp; first | done | with_reducible rfl)); try simp only [Act.put, List.setIfInBounds_toArray, List.set_cons_zero, List.set_cons_succ])
            (refine wpAnyC_take [43, 44, 46, 47, 48, 60] (i := 42) (oi := ⟨some 97, _, _, _, _, _⟩) (v := ?_) rfl (by kernel_rfl) (by kernel_rfl) (by kernel_rfl) (by kernel_rfl) (fun _ _ _ h => h) (Or.inl ⟨by rfl, ?_⟩) hHeld ?_; rotate_left; (focus (intro w hSw; (skip); go_simp; first | done | with_reducible rfl)); try simp only [Act.put, List.setIfInBounds_toArray, List.set_cons_zero, List.set_cons_succ])
            (refine wpAnyC_take [44, 46, 47, 48, 60] (i := 43) (oi := ⟨some 98, _, _, _, _, _⟩) (v := ?_) rfl (by kernel_rfl) (by kernel_rfl) (by kernel_rfl) (by kernel_rfl) (fun _ _ _ h => h) (Or.inl ⟨by rfl, ?_⟩) hHeld ?_; rotate_left; (focus (intro w hSw; (skip); go_simp; first | done | with_reducible rfl)); try simp only [Act.put, List.setIfInBounds_toArray, List.set_cons_zero, List.set_cons_succ])
            (refine wpAnyC_take [46, 47, 48, 60] (i := 44) (oi := ⟨some 99, _, _, _, _, _⟩) (v := ?_) rfl (by kernel_rfl) (by kernel_rfl) (by kernel_rfl) (by kernel_rfl) (fun _ _ _ h => h) (Or.inl ⟨by rfl, ?_⟩) hHeld ?_; rotate_left; (focus (intro w hSw; ((have q := hSw.cell d0; have q2 := hSw.cell f0)); go_simp; first | done | with_reducible rfl)); try simp only [Act.put, List.setIfInBounds_toArray, List.set_cons_zero, List.set_cons_succ])
            (refine wpAnyC_take [46, 47, 48, 60] (i := 45) (oi := ⟨some 100, _, _, _, _, _⟩) (v := ?_) rfl (by kernel_rfl) (by kernel_rfl) (by kernel_rfl) (by kernel_rfl) (fun _ _ _ h => h) (Or.inl ⟨by rfl, ?_⟩) hHeld ?_; rotate_left; (focus (intro w hSw; (skip); go_simp; first | done | with_reducible rfl)); try simp only [Act.put, List.setIfInBounds_toArray, List.set_cons_zero, List.set_cons_succ])
            (refine wpAnyC_take [47, 48, 60] (i := 46) (oi := ⟨some 101, _, _, _, _, _⟩) (v := ?_) rfl (by kernel_rfl) (by kernel_rfl) (by kernel_rfl) (by kernel_rfl) (fun _ _ _ h => h) (Or.inl ⟨by rfl, ?_⟩) hHeld ?_; rotate_left; (focus (intro w hSw; (skip); go_simp; first | done | with_reducible rfl)); try simp only [Act.put, List.setIfInBounds_toArray, List.set_cons_zero, List.set_cons_succ])
            (refine wpAnyC_take [48, 60] (i := 47) (oi := ⟨some 102, _, _, _, _, _⟩) (v := ?_) rfl (by kernel_rfl) (by kernel_rfl) (by kernel_rfl) (by kernel_rfl) (fun _ _ _ h => h) (Or.inl ⟨by rfl, ?_⟩) hHeld ?_; rotate_left; (focus (intro w hSw; (skip); go_simp; first | done | with_reducible rfl)); try simp only [Act.put, List.setIfInBounds_toArray, List.set_cons_zero, List.set_cons_succ])
            (refine wpAnyC_take [60] (i := 48) (oi := ⟨some 103, _, _, _, _, _⟩) (v := ?_) rfl (by kernel_rfl) (by kernel_rfl) (by kernel_rfl) (by kernel_rfl) (fun _ _ _ h => h) (Or.inl ⟨by rfl, ?_⟩) hHeld ?_; rotate_left; (focus (intro w hSw; (skip); go_simp; first | done | with_reducible rfl)); try simp only [Act.put, List.setIfInBounds_toArray, List.set_cons_zero, List.set_cons_succ])
            (refine wpAnyC_take [50, 51, 59, 60] (i := 49) (oi := ⟨some 104, _, _, _, _, _⟩) (v := ?_) rfl (by kernel_rfl) (by kernel_rfl) (by kernel_rfl) (by kernel_rfl) (fun _ _ _ h => h) (Or.inl ⟨by rfl, ?_⟩) hHeld ?_; rotate_left; (focus (intro w hSw; (skip); go_simp; first | done | with_reducible rfl)); try simp only [Act.put, List.setIfInBounds_toArray, List.set_cons_zero, List.set_cons_succ])
            (refine wpAnyC_take [51, 59, 60] (i := 50) (oi := ⟨some 105, _, _, _, _, _⟩) (v := ?_) rfl (by kernel_rfl) (by kernel_rfl) (by kernel_rfl) (by kernel_rfl) (fun _ _ _ h => h) (Or.inl ⟨by rfl, ?_⟩) hHeld ?_; rotate_left; (focus (intro w hSw; (skip); go_simp; first | done | with_reducible rfl)); try simp only [Act.put, List.setIfInBounds_toArray, List.set_cons_zero, List.set_cons_succ])
            (refine wpAnyC_take [59, 60] (i := 51) (oi := ⟨some 106, _, _, _, _, _⟩) (v := ?_) rfl (by kernel_rfl) (by kernel_rfl) (by kernel_rfl) (by kernel_rfl) (fun _ _ _ h => h) (Or.inl ⟨by rfl, ?_⟩) hHeld ?_; rotate_left; (focus (intro w hSw; (skip); go_simp; first | done | with_reducible rfl)); try simp only [Act.put, List.setIfInBounds_toArray, List.set_cons_zero, List.set_cons_succ])
            (refine wpAnyC_take [54, 55, 56, 58, 59, 60] (i := 52) (oi := ⟨some 107, _, _, _, _, _⟩) (v := undef) rfl (by kernel_rfl) (by kernel_rfl) (by kernel_rfl) (by kernel_rfl) (fun _ _ _ h => h) (Or.inr ⟨by rfl, rfl⟩) hHeld ?_; try simp only [Act.put, List.setIfInBounds_toArray, List.set_cons_zero, List.set_cons_succ])
            (refine wpAnyC_take [54, 55, 56, 58, 59, 60] (i := 53) (oi := ⟨some 108, _, _, _, _, _⟩) (v := undef) rfl (by kernel_rfl) (by kernel_rfl) (by kernel_rfl) (by kernel_rfl) (fun _ _ _ h => h) (Or.inr ⟨by rfl, rfl⟩) hHeld ?_; try simp only [Act.put, List.setIfInBounds_toArray, List.set_cons_zero, List.set_cons_succ])
            (refine wpAnyC_take [55, 56, 58, 59, 60] (i := 54) (oi := ⟨some 109, _, _, _, _, _⟩) (v := undef) rfl (by kernel_rfl) (by kernel_rfl) (by kernel_rfl) (by kernel_rfl) (fun _ _ _ h => h) (Or.inr ⟨by rfl, rfl⟩) hHeld ?_; try simp only [Act.put, List.setIfInBounds_toArray, List.set_cons_zero, List.set_cons_succ])
            (refine wpAnyC_take [56, 58, 59, 60] (i := 55) (oi := ⟨some 110, _, _, _, _, _⟩) (v := undef) rfl (by kernel_rfl) (by kernel_rfl) (by kernel_rfl) (by kernel_rfl) (fun _ _ _ h => h) (Or.inr ⟨by rfl, rfl⟩) hHeld ?_; try simp only [Act.put, List.setIfInBounds_toArray, List.set_cons_zero, List.set_cons_succ])
            (refine wpAnyC_take [58, 59, 60] (i := 56) (oi := ⟨some 111, _, _, _, _, _⟩) (v := undef) rfl (by kernel_rfl) (by kernel_rfl) (by kernel_rfl) (by kernel_rfl) (fun _ _ _ h => h) (Or.inr ⟨by rfl, rfl⟩) hHeld ?_; try simp only [Act.put, List.setIfInBounds_toArray, List.set_cons_zero, List.set_cons_succ])
            (refine wpAnyC_take [58, 59, 60] (i := 57) (oi := ⟨some 112, _, _, _, _, _⟩) (v := undef) rfl (by kernel_rfl) (by kernel_rfl) (by kernel_rfl) (by kernel_rfl) (fun _ _ _ h => h) (Or.inr ⟨by rfl, rfl⟩) hHeld ?_; try simp only [Act.put, List.setIfInBounds_toArray, List.set_cons_zero, List.set_cons_succ])
            (refine wpAnyC_take [59, 60] (i := 58) (oi := ⟨some 113, _, _, _, _, _⟩) (v := undef) rfl (by kernel_rfl) (by kernel_rfl) (by kernel_rfl) (by kernel_rfl) (fun _ _ _ h => h) (Or.inr ⟨by rfl, rfl⟩) hHeld ?_; try simp only [Act.put, List.setIfInBounds_toArray, List.set_cons_zero, List.set_cons_succ])
            (refine wpAnyC_take [60] (i := 59) (oi := ⟨some 114, _, _, _, _, _⟩) (v := ?_) rfl (by kernel_rfl) (by kernel_rfl) (by kernel_rfl) (by kernel_rfl) (fun _ _ _ h => h) (Or.inl ⟨by rfl, ?_⟩) hHeld ?_; rotate_left; (focus (intro w hSw; (skip); go_simp; first | done | with_reducible rfl)); try simp only [Act.put, List.setIfInBounds_toArray, List.set_cons_zero, List.set_cons_succ])
            refine wpAnyC_c (oi := ⟨some 115, _, _, _, _, _⟩) rfl (by kernel_rfl) (fun K hK => ?_)
            rw [if_pos (by rfl)]
            go_simp
            refine hK.out _ _ ?_
            clear hK K
            try simp only [Act.put, List.setIfInBounds_toArray, List.set_cons_zero, List.set_cons_succ]
            refine wpAny_done (by kernel_rfl) ?_ _
            go_wp2
            go_roundw
            case rel => exact ⟨1, by omega, by go_num, HX6.out.trans (Ext.of_drew w6)⟩
            case measure => (simp [intOf]; try omega)
          · have k3b : (t != ([] : List UInt8)) = true := by rw [bne_iff_ne]; exact k3
            have k3c : (t == ([] : List UInt8)) = false := by rw [beq_eq_false_iff_ne]; exact k3
            rcases hmem.2.2 with h9 | h9
            · exact absurd h9 k3
            · rw [decide_eq_true h9] at bxt
              have hHeld := Ext.of_drew w6
              refine wp_region_C (fun w' => Ext w6 w') 60 (by kernel_rfl) ?_
              (refine wpAnyC_take [1, 2, 16, 26, 35, 39, 48, 60] (i := 0) (oi := ⟨some 55, _, _, _, _, _⟩) (v := ?_) rfl (by kernel_rfl) (by kernel_rfl) (by kernel_rfl) (by kernel_rfl) (fun _ _ _ h => h) (Or.inl ⟨by rfl, ?_⟩) hHeld ?_; rotate_left; (focus (intro w hSw; (skip); go_simp; first | done | with_reducible rfl)); try simp only [Act.put, List.setIfInBounds_toArray, List.set_cons_zero, List.set_cons_succ])
              (refine wpAnyC_take [2, 16, 26, 35, 39, 48, 60] (i := 1) (oi := ⟨some 56, _, _, _, _, _⟩) (v := ?_) rfl (by kernel_rfl) (by kernel_rfl) (by kernel_rfl) (by kernel_rfl) (fun _ _ _ h => h) (Or.inl ⟨by rfl, ?_⟩) hHeld ?_; rotate_left; (focus (intro w hSw; (skip); go_simp; first | done | with_reducible rfl)); try simp only [Act.put, List.setIfInBounds_toArray, List.set_cons_zero, List.set_cons_succ])
              (refine wpAnyC_take [16, 26, 35, 39, 48, 60] (i := 2) (oi := ⟨some 57, _, _, _, _, _⟩) (v := ?_) rfl (by kernel_rfl) (by kernel_rfl) (by kernel_rfl) (by kernel_rfl) (fun _ _ _ h => h) (Or.inl ⟨by rfl, ?_⟩) hHeld ?_; rotate_left; (focus (intro w hSw; (skip); go_simp; first | done | with_reducible rfl)); try simp only [Act.put, List.setIfInBounds_toArray, List.set_cons_zero, List.set_cons_succ])
              (refine wpAnyC_take [6, 7, 8, 14, 15, 16, 26, 35, 39, 48, 60] (i := 3) (oi := ⟨some 58, _, _, _, _, _⟩) (v := undef) rfl (by kernel_rfl) (by kernel_rfl) (by kernel_rfl) (by kernel_rfl) (fun _ _ _ h => h) (Or.inr ⟨by rfl, rfl⟩) hHeld ?_; try simp only [Act.put, List.setIfInBounds_toArray, List.set_cons_zero, List.set_cons_succ])
              (refine wpAnyC_take [5, 6, 7, 8, 14, 15, 16, 26, 35, 39, 48, 60] (i := 4) (oi := ⟨some 59, _, _, _, _, _⟩) (v := undef) rfl (by kernel_rfl) (by kernel_rfl) (by kernel_rfl) (by kernel_rfl) (fun _ _ _ h => h) (Or.inr ⟨by rfl, rfl⟩) hHeld ?_; try simp only [Act.put, List.setIfInBounds_toArray, List.set_cons_zero, List.set_cons_succ])
              (refine wpAnyC_take [6, 7, 8, 14, 15, 16, 26, 35, 39, 48, 60] (i := 5) (oi := ⟨some 60, _, _, _, _, _⟩) (v := undef) rfl (by kernel_rfl) (by kernel_rfl) (by kernel_rfl) (by kernel_rfl) (fun _ _ _ h => h) (Or.inr ⟨by rfl, rfl⟩) hHeld ?_; try simp only [Act.put, List.setIfInBounds_toArray, List.set_cons_zero, List.set_cons_succ])
              (refine wpAnyC_take [7, 8, 14, 15, 16, 26, 35, 39, 48, 60] (i := 6) (oi := ⟨some 61, _, _, _, _, _⟩) (v := undef) rfl (by kernel_rfl) (by kernel_rfl) (by kernel_rfl) (by kernel_rfl) (fun _ _ _ h => h) (Or.inr ⟨by rfl, rfl⟩) hHeld ?_; try simp only [Act.put, List.setIfInBounds_toArray, List.set_cons_zero, List.set_cons_succ])
              (refine wpAnyC_take [8, 14, 15, 16, 26, 35, 39, 48, 60] (i := 7) (oi := ⟨some 62, _, _, _, _, _⟩) (v := undef) rfl (by kernel_rfl) (by kernel_rfl) (by kernel_rfl) (by kernel_rfl) (fun _ _ _ h => h) (Or.inr ⟨by rfl, rfl⟩) hHeld ?_; try simp only [Act.put, List.setIfInBounds_toArray, List.set_cons_zero, List.set_cons_succ])
              (refine wpAnyC_take [14, 15, 16, 26, 35, 39, 48, 60] (i := 8) (oi := ⟨some 63, _, _, _, _, _⟩) (v := undef) rfl (by kernel_rfl) (by kernel_rfl) (by kernel_rfl) (by kernel_rfl) (fun _ _ _ h => h) (Or.inr ⟨by rfl, rfl⟩) hHeld ?_; try simp only [Act.put, List.setIfInBounds_toArray, List.set_cons_zero, List.set_cons_succ])
              (refine wpAnyC_take [11, 12, 13, 14, 15, 16, 26, 35, 39, 48, 60] (i := 9) (oi := ⟨some 64, _, _, _, _, _⟩) (v := undef) rfl (by kernel_rfl) (by kernel_rfl) (by kernel_rfl) (by kernel_rfl) (fun _ _ _ h => h) (Or.inr ⟨by rfl, rfl⟩) hHeld ?_; try simp only [Act.put, List.setIfInBounds_toArray, List.set_cons_zero, List.set_cons_succ])
              (refine wpAnyC_take [11, 12, 13, 14, 15, 16, 26, 35, 39, 48, 60] (i := 10) (oi := ⟨some 65, _, _, _, _, _⟩) (v := undef) rfl (by kernel_rfl) (by kernel_rfl) (by kernel_rfl) (by kernel_rfl) (fun _ _ _ h => h) (Or.inr ⟨by rfl, rfl⟩) hHeld ?_; try simp only [Act.put, List.setIfInBounds_toArray, List.set_cons_zero, List.set_cons_succ])
              (refine wpAnyC_take [12, 13, 14, 15, 16, 26, 35, 39, 48, 60] (i := 11) (oi := ⟨some 66, _, _, _, _, _⟩) (v := undef) rfl (by kernel_rfl) (by kernel_rfl) (by kernel_rfl) (by kernel_rfl) (fun _ _ _ h => h) (Or.inr ⟨by rfl, rfl⟩) hHeld ?_; try simp only [Act.put, List.setIfInBounds_toArray, List.set_cons_zero, List.set_cons_succ])
              (refine wpAnyC_take [13, 14, 15, 16, 26, 35, 39, 48, 60] (i := 12) (oi := ⟨some 67, _, _, _, _, _⟩) (v := undef) rfl (by kernel_rfl) (by kernel_rfl) (by kernel_rfl) (by kernel_rfl) (fun _ _ _ h => h) (Or.inr ⟨by rfl, rfl⟩) hHeld ?_; try simp only [Act.put, List.setIfInBounds_toArray, List.set_cons_zero, List.set_cons_succ])
              (refine wpAnyC_take [14, 15, 16, 26, 35, 39, 48, 60] (i := 13) (oi := ⟨some 68, _, _, _, _, _⟩) (v := undef) rfl (by kernel_rfl) (by kernel_rfl) (by kernel_rfl) (by kernel_rfl) (fun _ _ _ h => h) (Or.inr ⟨by rfl, rfl⟩) hHeld ?_; try simp only [Act.put, List.setIfInBounds_toArray, List.set_cons_zero, List.set_cons_succ])
              (refine wpAnyC_take [15, 16, 26, 35, 39, 48, 60] (i := 14) (oi := ⟨some 69, _, _, _, _, _⟩) (v := undef) rfl (by kernel_rfl) (by kernel_rfl) (by kernel_rfl) (by kernel_rfl) (fun _ _ _ h => h) (Or.inr ⟨by rfl, rfl⟩) hHeld ?_; try simp only [Act.put, List.setIfInBounds_toArray, List.set_cons_zero, List.set_cons_succ])
              (refine wpAnyC_take [16, 26, 35, 39, 48, 60] (i := 15) (oi := ⟨some 70, _, _, _, _, _⟩) (v := ?_) rfl (by kernel_rfl) (by kernel_rfl) (by kernel_rfl) (by kernel_rfl) (fun _ _ _ h => h) (Or.inl ⟨by rfl, ?_⟩) hHeld ?_; rotate_left; (focus (intro w hSw; (skip); go_simp; first | done | with_reducible rfl)); try simp only [Act.put, List.setIfInBounds_toArray, List.set_cons_zero, List.set_cons_succ])
              (refine wpAnyC_take [26, 35, 39, 48, 60] (i := 16) (oi := ⟨some 71, _, _, _, _, _⟩) (v := ?_) rfl (by kernel_rfl) (by kernel_rfl) (by kernel_rfl) (by kernel_rfl) (fun _ _ _ h => h) (Or.inl ⟨by rfl, ?_⟩) hHeld ?_; rotate_left; (focus (intro w hSw; (skip); go_simp; first | done | with_reducible rfl)); try simp only [Act.put, List.setIfInBounds_toArray, List.set_cons_zero, List.set_cons_succ])
              (refine wpAnyC_take [18, 24, 25, 26, 35, 39, 48, 60] (i := 17) (oi := ⟨some 72, _, _, _, _, _⟩) (v := ?_) rfl (by kernel_rfl) (by kernel_rfl) (by kernel_rfl) (by kernel_rfl) (fun _ _ _ h => h) (Or.inl ⟨by rfl, ?_⟩) hHeld ?_; rotate_left; (focus (intro w hSw; (skip); go_simp; first | done | with_reducible rfl)); try simp only [Act.put, List.setIfInBounds_toArray, List.set_cons_zero, List.set_cons_succ])
              (refine wpAnyC_take [24, 25, 26, 35, 39, 48, 60] (i := 18) (oi := ⟨some 73, _, _, _, _, _⟩) (v := ?_) rfl (by kernel_rfl) (by kernel_rfl) (by kernel_rfl) (by kernel_rfl) (fun _ _ _ h => h) (Or.inl ⟨by rfl, ?_⟩) hHeld ?_; rotate_left; (focus (intro w hSw; ((have q := cv _ hSw)); go_simp; first | done | with_reducible rfl)); try simp only [Act.put, List.setIfInBounds_toArray, List.set_cons_zero, List.set_cons_succ])
              (refine wpAnyC_take [21, 22, 23, 24, 25, 26, 35, 39, 48, 60] (i := 19) (oi := ⟨some 74, _, _, _, _, _⟩) (v := ?_) rfl (by kernel_rfl) (by kernel_rfl) (by kernel_rfl) (by kernel_rfl) (fun _ _ _ h => h) (Or.inl ⟨by rfl, ?_⟩) hHeld ?_; rotate_left; (focus (intro w hSw; (skip); go_simp; first | done | with_reducible rfl)); try simp only [Act.put, List.setIfInBounds_toArray, List.set_cons_zero, List.set_cons_succ])
              (refine wpAnyC_take [21, 22, 23, 24, 25, 26, 35, 39, 48, 60] (i := 20) (oi := ⟨some 75, _, _, _, _, _⟩) (v := ?_) rfl (by kernel_rfl) (by kernel_rfl) (by kernel_rfl) (by kernel_rfl) (fun _ _ _ h => h) (Or.inl ⟨by rfl, ?_⟩) hHeld ?_; rotate_left; (focus (intro w hSw; (skip); go_simp; first | done | with_reducible rfl)); try simp only [Act.put, List.setIfInBounds_toArray, List.set_cons_zero, List.set_cons_succ])
              (refine wpAnyC_take [22, 23, 24, 25, 26, 35, 39, 48, 60] (i := 21) (oi := ⟨some 76, _, _, _, _, _⟩) (v := ?_) rfl (by kernel_rfl) (by kernel_rfl) (by kernel_rfl) (by kernel_rfl) (fun _ _ _ h => h) (Or.inl ⟨by rfl, ?_⟩) hHeld ?_; rotate_left; (focus (intro w hSw; (skip); go_simp; first | done | with_reducible rfl)); try simp only [Act.put, List.setIfInBounds_toArray, List.set_cons_zero, List.set_cons_succ])
              (refine wpAnyC_take [23, 24, 25, 26, 35, 39, 48, 60] (i := 22) (oi := ⟨some 77, _, _, _, _, _⟩) (v := ?_) rfl (by kernel_rfl) (by kernel_rfl) (by kernel_rfl) (by kernel_rfl) (fun _ _ _ h => h) (Or.inl ⟨by rfl, ?_⟩) hHeld ?_; rotate_left; (focus (intro w hSw; (skip); go_simp; first | done | with_reducible rfl)); try simp only [Act.put, List.setIfInBounds_toArray, List.set_cons_zero, List.set_cons_succ])
              (refine wpAnyC_take [24, 25, 26, 35, 39, 48, 60] (i := 23) (oi := ⟨some 78, _, _, _, _, _⟩) (v := ?_) rfl (by kernel_rfl) (by kernel_rfl) (by kernel_rfl) (by kernel_rfl) (fun _ _ _ h => h) (Or.inl ⟨by rfl, ?_⟩) hHeld ?_; rotate_left; (focus (intro w hSw; ((have q := hSw.cell d1; have q2 := hSw.cell f1)); go_simp; first | done | with_reducible rfl)); try simp only [Act.put, List.setIfInBounds_toArray, List.set_cons_zero, List.set_cons_succ])
              (refine wpAnyC_take [25, 26, 35, 39, 48, 60] (i := 24) (oi := ⟨some 79, _, _, _, _, _⟩) (v := ?_) rfl (by kernel_rfl) (by kernel_rfl) (by kernel_rfl) (by kernel_rfl) (fun _ _ _ h => h) (Or.inl ⟨by rfl, ?_⟩) hHeld ?_; rotate_left; (focus (intro w hSw; (skip); go_simp; first | done | with_reducible rfl)); try simp only [Act.put, List.setIfInBounds_toArray, List.set_cons_zero, List.set_cons_succ])
              (refine wpAnyC_take [26, 35, 39, 48, 60] (i := 25) (oi := ⟨some 80, _, _, _, _, _⟩) (v := ?_) rfl (by kernel_rfl) (by kernel_rfl) (by kernel_rfl) (by kernel_rfl) (fun _ _ _ h => h) (Or.inl ⟨by rfl, ?_⟩) hHeld ?_; rotate_left; (focus (intro w hSw; (skip); go_simp; first | done | with_reducible rfl)); try simp only [Act.put, List.setIfInBounds_toArray, List.set_cons_zero, List.set_cons_succ])
              (refine wpAnyC_take [35, 39, 48, 60] (i := 26) (oi := ⟨some 81, _, _, _, _, _⟩) (v := ?_) rfl (by kernel_rfl) (by kernel_rfl) (by kernel_rfl) (by kernel_rfl) (fun _ _ _ h => h) (Or.inl ⟨by rfl, ?_⟩) hHeld ?_; rotate_left; (focus (intro w hSw; (skip); go_simp; first | done | with_reducible rfl)); try simp only [Act.put, List.setIfInBounds_toArray, List.set_cons_zero, List.set_cons_succ])
              (refine wpAnyC_take [33, 34, 35, 39, 48, 60] (i := 27) (oi := ⟨some 82, _, _, _, _, _⟩) (v := ?_) rfl (by kernel_rfl) (by kernel_rfl) (by kernel_rfl) (by kernel_rfl) (fun _ _ _ h => h) (Or.inl ⟨by rfl, ?_⟩) hHeld ?_; rotate_left; (focus (intro w hSw; (skip); go_simp; first | done | with_reducible rfl)); try simp only [Act.put, List.setIfInBounds_toArray, List.set_cons_zero, List.set_cons_succ])
              (refine wpAnyC_take [30, 31, 32, 33, 34, 35, 39, 48, 60] (i := 28) (oi := ⟨some 83, _, _, _, _, _⟩) (v := ?_) rfl (by kernel_rfl) (by kernel_rfl) (by kernel_rfl) (by kernel_rfl) (fun _ _ _ h => h) (Or.inl ⟨by rfl, ?_⟩) hHeld ?_; rotate_left; (focus (intro w hSw; (skip); go_simp; first | done | with_reducible rfl)); try simp only [Act.put, List.setIfInBounds_toArray, List.set_cons_zero, List.set_cons_succ])
              (refine wpAnyC_take [30, 31, 32, 33, 34, 35, 39, 48, 60] (i := 29) (oi := ⟨some 84, _, _, _, _, _⟩) (v := ?_) rfl (by kernel_rfl) (by kernel_rfl) (by kernel_rfl) (by kernel_rfl) (fun _ _ _ h => h) (Or.inl ⟨by rfl, ?_⟩) hHeld ?_; rotate_left; (focus (intro w hSw; (skip); go_simp; first | done | with_reducible rfl)); try simp only [Act.put, List.setIfInBounds_toArray, List.set_cons_zero, List.set_cons_succ])
              (refine wpAnyC_take [31, 32, 33, 34, 35, 39, 48, 60] (i := 30) (oi := ⟨some 85, _, _, _, _, _⟩) (v := ?_) rfl (by kernel_rfl) (by kernel_rfl) (by kernel_rfl) (by kernel_rfl) (fun _ _ _ h => h) (Or.inl ⟨by rfl, ?_⟩) hHeld ?_; rotate_left; (focus (intro w hSw; (skip); go_simp; first | done | with_reducible rfl)); try simp only [Act.put, List.setIfInBounds_toArray, List.set_cons_zero, List.set_cons_succ])
              (refine wpAnyC_take [32, 33, 34, 35, 39, 48, 60] (i := 31) (oi := ⟨some 86, _, _, _, _, _⟩) (v := ?_) rfl (by kernel_rfl) (by kernel_rfl) (by kernel_rfl) (by kernel_rfl) (fun _ _ _ h => h) (Or.inl ⟨by rfl, ?_⟩) hHeld ?_; rotate_left; (focus (intro w hSw; (skip); go_simp; first | done | with_reducible rfl)); try simp only [Act.put, List.setIfInBounds_toArray, List.set_cons_zero, List.set_cons_succ])
              (refine wpAnyC_take [33, 34, 35, 39, 48, 60] (i := 32) (oi := ⟨some 87, _, _, _, _, _⟩) (v := ?_) rfl (by kernel_rfl) (by kernel_rfl) (by kernel_rfl) (by kernel_rfl) (fun _ _ _ h => h) (Or.inl ⟨by rfl, ?_⟩) hHeld ?_; rotate_left; (focus (intro w hSw; ((have q := hSw.cell d2; have q2 := hSw.cell f2)); go_simp; first | done | with_reducible rfl)); try simp only [Act.put, List.setIfInBounds_toArray, List.set_cons_zero, List.set_cons_succ])
              (refine wpAnyC_take [34, 35, 39, 48, 60] (i := 33) (oi := ⟨some 88, _, _, _, _, _⟩) (v := ?_) rfl (by kernel_rfl) (by kernel_rfl) (by kernel_rfl) (by kernel_rfl) (fun _ _ _ h => h) (Or.inl ⟨by rfl, ?_⟩) hHeld ?_; rotate_left; (focus (intro w hSw; (skip); go_simp; first | done | with_reducible rfl)); try simp only [Act.put, List.setIfInBounds_toArray, List.set_cons_zero, List.set_cons_succ])
              (refine wpAnyC_take [35, 39, 48, 60] (i := 34) (oi := ⟨some 89, _, _, _, _, _⟩) (v := ?_) rfl (by kernel_rfl) (by kernel_rfl) (by kernel_rfl) (by kernel_rfl) (fun _ _ _ h => h) (Or.inl ⟨by rfl, ?_⟩) hHeld ?_; rotate_left; (focus (intro w hSw; (skip); go_simp; first | done | with_reducible rfl)); try simp only [Act.put, List.setIfInBounds_toArray, List.set_cons_zero, List.set_cons_succ])
              (refine wpAnyC_take [39, 48, 60] (i := 35) (oi := ⟨some 90, _, _, _, _, _⟩) (v := ?_) rfl (by kernel_rfl) (by kernel_rfl) (by kernel_rfl) (by kernel_rfl) (fun _ _ _ h => h) (Or.inl ⟨by rfl, ?_⟩) hHeld ?_; rotate_left; (focus (intro w hSw; (skip); go_simp; first | done | with_reducible rfl)); try simp only [Act.put, List.setIfInBounds_toArray, List.set_cons_zero, List.set_cons_succ])
              (refine wpAnyC_take [37, 38, 39, 48, 60] (i := 36) (oi := ⟨some 91, _, _, _, _, _⟩) (v := ?_) rfl (by kernel_rfl) (by kernel_rfl) (by kernel_rfl) (by kernel_rfl) (fun _ _ _ h => h) (Or.inl ⟨by rfl, ?_⟩) hHeld ?_; rotate_left; (focus (intro w hSw; (skip); go_simp; first | done | with_reducible rfl)); try simp only [Act.put, List.setIfInBounds_toArray, List.set_cons_zero, List.set_cons_succ])
              (refine wpAnyC_take [38, 39, 48, 60] (i := 37) (oi := ⟨some 92, _, _, _, _, _⟩) (v := ?_) rfl (by kernel_rfl) (by kernel_rfl) (by kernel_rfl) (by kernel_rfl) (fun _ _ _ h => h) (Or.inl ⟨by rfl, ?_⟩) hHeld ?_; rotate_left; (focus (intro w hSw; (skip); go_simp; first | done | with_reducible rfl)); try simp only [Act.put, List.setIfInBounds_toArray, List.set_cons_zero, List.set_cons_succ])
              (refine wpAnyC_take [39, 48, 60] (i := 38) (oi := ⟨some 93, _, _, _, _, _⟩) (v := ?_) rfl (by kernel_rfl) (by kernel_rfl) (by kernel_rfl) (by kernel_rfl) (fun _ _ _ h => h) (Or.inl ⟨by rfl, ?_⟩) hHeld ?_; rotate_left; (focus (intro w hSw; (skip); go_simp; first | done | with_reducible rfl)); try simp only [Act.put, List.setIfInBounds_toArray, List.set_cons_zero, List.set_cons_succ])
              (refine wpAnyC_take [48, 60] (i := 39) (oi := ⟨some 94, _, _, _, _, _⟩) (v := ?_) rfl (by kernel_rfl) (by kernel_rfl) (by kernel_rfl) (by kernel_rfl) (fun _ _ _ h => h) (Or.inl ⟨by rfl, ?_⟩) hHeld ?_; rotate_left; (focus (intro w hSw; (skip); go_simp; first | done | with_reducible rfl)); try simp only [Act.put, List.setIfInBounds_toArray, List.set_cons_zero, List.set_cons_succ])
              (refine wpAnyC_take [42, 43, 44, 46, 47, 48, 60] (i := 40) (oi := ⟨some 95, _, _, _, _, _⟩) (v := ?_) rfl (by kernel_rfl) (by kernel_rfl) (by kernel_rfl) (by kernel_rfl) (fun _ _ _ h => h) (Or.inl ⟨by rfl, ?_⟩) hHeld ?_; rotate_left; (focus (intro w hSw; (skip); go_simp; first | done | with_reducible rfl)); try simp only [Act.put, List.setIfInBounds_toArray, List.set_cons_zero, List.set_cons_succ])
              (refine wpAnyC_take [42, 43, 44, 46, 47, 48, 60] (i := 41) (oi := ⟨some 96, _, _, _, _, _⟩) (v := ?_) rfl (by kernel_rfl) (by kernel_rfl) (by kernel_rfl) (by kernel_rfl) (fun _ _ _ h => h) (Or.inl ⟨by rfl, ?_⟩) hHeld ?_; rotate_left; (focus (intro w hSw; (skip); go_simp; first | done | with_reducible rfl)); try simp only [Act.put, List.setIfInBounds_toArray, List.set_cons_zero, List.set_cons_succ])
              (refine wpAnyC_take [43, 44, 46, 47, 48, 60] (i := 42) (oi := ⟨some 97, _, _, _, _, _⟩) (v := ?_) rfl (by kernel_rfl) (by kernel_rfl) (by kernel_rfl) (by kernel_rfl) (fun _ _ _ h => h) (Or.inl ⟨by rfl, ?_⟩) hHeld ?_; rotate_left; (focus (intro w hSw; (skip); go_simp; first | done | with_reducible rfl)); try simp only [Act.put, List.setIfInBounds_toArray, List.set_cons_zero, List.set_cons_succ])
              (refine wpAnyC_take [44, 46, 47, 48, 60] (i := 43) (oi := ⟨some 98, _, _, _, _, _⟩) (v := ?_) rfl (by kernel_rfl) (by kernel_rfl) (by kernel_rfl) (by kernel_rfl) (fun _ _ _ h => h) (Or.inl ⟨by rfl, ?_⟩) hHeld ?_; rotate_left; (focus (intro w hSw; (skip); go_simp; first | done | with_reducible rfl)); try simp only [Act.put, List.setIfInBounds_toArray, List.set_cons_zero, List.set_cons_succ])
              (refine wpAnyC_take [46, 47, 48, 60] (i := 44) (oi := ⟨some 99, _, _, _, _, _⟩) (v := ?_) rfl (by kernel_rfl) (by kernel_rfl) (by kernel_rfl) (by kernel_rfl) (fun _ _ _ h => h) (Or.inl ⟨by rfl, ?_⟩) hHeld ?_; rotate_left; (focus (intro w hSw; ((have q := hSw.cell d0; have q2 := hSw.cell f0)); go_simp; first | done | with_reducible rfl)); try simp only [Act.put, List.setIfInBounds_toArray, List.set_cons_zero, List.set_cons_succ])
              (refine wpAnyC_take [46, 47, 48, 60] (i := 45) (oi := ⟨some 100, _, _, _, _, _⟩) (v := ?_) rfl (by kernel_rfl) (by kernel_rfl) (by kernel_rfl) (by kernel_rfl) (fun _ _ _ h => h) (Or.inl ⟨by rfl, ?_⟩) hHeld ?_; rotate_left; (focus (intro w hSw; (skip); go_simp; first | done | with_reducible rfl)); try simp only [Act.put, List.setIfInBounds_toArray, List.set_cons_zero, List.set_cons_succ])
              (refine wpAnyC_take [47, 48, 60] (i := 46) (oi := ⟨some 101, _, _, _, _, _⟩) (v := ?_) rfl (by kernel_rfl) (by kernel_rfl) (by kernel_rfl) (by kernel_rfl) (fun _ _ _ h => h) (Or.inl ⟨by rfl, ?_⟩) hHeld ?_; rotate_left; (focus (intro w hSw; (skip); go_simp; first | done | with_reducible rfl)); try simp only [Act.put, List.setIfInBounds_toArray, List.set_cons_zero, List.set_cons_succ])
              (refine wpAnyC_take [48, 60] (i := 47) (oi := ⟨some 102, _, _, _, _, _⟩) (v := ?_) rfl (by kernel_rfl) (by kernel_rfl) (by kernel_rfl) (by kernel_rfl) (fun _ _ _ h => h) (Or.inl ⟨by rfl, ?_⟩) hHeld ?_; rotate_left; (focus (intro w hSw; (skip); go_simp; first | done | with_reducible rfl)); try simp only [Act.put, List.setIfInBounds_toArray, List.set_cons_zero, List.set_cons_succ])
              (refine wpAnyC_take [60] (i := 48) (oi := ⟨some 103, _, _, _, _, _⟩) (v := ?_) rfl (by kernel_rfl) (by kernel_rfl) (by kernel_rfl) (by kernel_rfl) (fun _ _ _ h => h) (Or.inl ⟨by rfl, ?_⟩) hHeld ?_; rotate_left; (focus (intro w hSw; (skip); go_simp; first | done | with_reducible rfl)); try simp only [Act.put, List.setIfInBounds_toArray, List.set_cons_zero, List.set_cons_succ])
              (refine wpAnyC_take [50, 51, 59, 60] (i := 49) (oi := ⟨some 104, _, _, _, _, _⟩) (v := ?_) rfl (by kernel_rfl) (by kernel_rfl) (by kernel_rfl) (by kernel_rfl) (fun _ _ _ h => h) (Or.inl ⟨by rfl, ?_⟩) hHeld ?_; rotate_left; (focus (intro w hSw; (skip); go_simp; first | done | with_reducible rfl)); try simp only [Act.put, List.setIfInBounds_toArray, List.set_cons_zero, List.set_cons_succ])
              (refine wpAnyC_take [51, 59, 60] (i := 50) (oi := ⟨some 105, _, _, _, _, _⟩) (v := ?_) rfl (by kernel_rfl) (by kernel_rfl) (by kernel_rfl) (by kernel_rfl) (fun _ _ _ h => h) (Or.inl ⟨by rfl, ?_⟩) hHeld ?_; rotate_left; (focus (intro w hSw; (skip); go_simp; first | done | with_reducible rfl)); try simp only [Act.put, List.setIfInBounds_toArray, List.set_cons_zero, List.set_cons_succ])
              (refine wpAnyC_take [59, 60] (i := 51) (oi := ⟨some 106, _, _, _, _, _⟩) (v := ?_) rfl (by kernel_rfl) (by kernel_rfl) (by kernel_rfl) (by kernel_rfl) (fun _ _ _ h => h) (Or.inl ⟨by rfl, ?_⟩) hHeld ?_; rotate_left; (focus (intro w hSw; (skip); go_simp; first | done | with_reducible rfl)); try simp only [Act.put, List.setIfInBounds_toArray, List.set_cons_zero, List.set_cons_succ])
              (refine wpAnyC_take [54, 55, 56, 58, 59, 60] (i := 52) (oi := ⟨some 107, _, _, _, _, _⟩) (v := ?_) rfl (by kernel_rfl) (by kernel_rfl) (by kernel_rfl) (by kernel_rfl) (fun _ _ _ h => h) (Or.inl ⟨by rfl, ?_⟩) hHeld ?_; rotate_left; (focus (intro w hSw; (skip); go_simp; first | done | with_reducible rfl)); try simp only [Act.put, List.setIfInBounds_toArray, List.set_cons_zero, List.set_cons_succ])
              (refine wpAnyC_take [54, 55, 56, 58, 59, 60] (i := 53) (oi := ⟨some 108, _, _, _, _, _⟩) (v := ?_) rfl (by kernel_rfl) (by kernel_rfl) (by kernel_rfl) (by kernel_rfl) (fun _ _ _ h => h) (Or.inl ⟨by rfl, ?_⟩) hHeld ?_; rotate_left; (focus (intro w hSw; (skip); go_simp; first | done | with_reducible rfl)); try simp only [Act.put, List.setIfInBounds_toArray, List.set_cons_zero, List.set_cons_succ])
              (refine wpAnyC_take [55, 56, 58, 59, 60] (i := 54) (oi := ⟨some 109, _, _, _, _, _⟩) (v := ?_) rfl (by kernel_rfl) (by kernel_rfl) (by kernel_rfl) (by kernel_rfl) (fun _ _ _ h => h) (Or.inl ⟨by rfl, ?_⟩) hHeld ?_; rotate_left; (focus (intro w hSw; (skip); go_simp; first | done | with_reducible rfl)); try simp only [Act.put, List.setIfInBounds_toArray, List.set_cons_zero, List.set_cons_succ])
              (refine wpAnyC_take [56, 58, 59, 60] (i := 55) (oi := ⟨some 110, _, _, _, _, _⟩) (v := ?_) rfl (by kernel_rfl) (by kernel_rfl) (by kernel_rfl) (by kernel_rfl) (fun _ _ _ h => h) (Or.inl ⟨by rfl, ?_⟩) hHeld ?_; rotate_left; (focus (intro w hSw; (skip); go_simp; first | done | with_reducible rfl)); try simp only [Act.put, List.setIfInBounds_toArray, List.set_cons_zero, List.set_cons_succ])
              (refine wpAnyC_take [58, 59, 60] (i := 56) (oi := ⟨some 111, _, _, _, _, _⟩) (v := ?_) rfl (by kernel_rfl) (by kernel_rfl) (by kernel_rfl) (by kernel_rfl) (fun _ _ _ h => h) (Or.inl ⟨by rfl, ?_⟩) hHeld ?_; rotate_left; (focus (intro w hSw; ((have q := hSw.cell d0; have q2 := hSw.cell f0)); go_simp; first | done | with_reducible rfl)); try simp only [Act.put, List.setIfInBounds_toArray, List.set_cons_zero, List.set_cons_succ])
              (refine wpAnyC_take [58, 59, 60] (i := 57) (oi := ⟨some 112, _, _, _, _, _⟩) (v := ?_) rfl (by kernel_rfl) (by kernel_rfl) (by kernel_rfl) (by kernel_rfl) (fun _ _ _ h => h) (Or.inl ⟨by rfl, ?_⟩) hHeld ?_; rotate_left; (focus (intro w hSw; (skip); go_simp; first | done | with_reducible rfl)); try simp only [Act.put, List.setIfInBounds_toArray, List.set_cons_zero, List.set_cons_succ])
              (refine wpAnyC_take [59, 60] (i := 58) (oi := ⟨some 113, _, _, _, _, _⟩) (v := ?_) rfl (by kernel_rfl) (by kernel_rfl) (by kernel_rfl) (by kernel_rfl) (fun _ _ _ h => h) (Or.inl ⟨by rfl, ?_⟩) hHeld ?_; rotate_left; (focus (intro w hSw; (skip); go_simp; first | done | with_reducible rfl)); try simp only [Act.put, List.setIfInBounds_toArray, List.set_cons_zero, List.set_cons_succ])
              (refine wpAnyC_take [60] (i := 59) (oi := ⟨some 114, _, _, _, _, _⟩) (v := ?_) rfl (by kernel_rfl) (by kernel_rfl) (by kernel_rfl) (by kernel_rfl) (fun _ _ _ h => h) (Or.inl ⟨by rfl, ?_⟩) hHeld ?_; rotate_left; (focus (intro w hSw; (skip); go_simp; first | done | with_reducible rfl)); try simp only [Act.put, List.setIfInBounds_toArray, List.set_cons_zero, List.set_cons_succ])
              refine wpAnyC_c (oi := ⟨some 115, _, _, _, _, _⟩) rfl (by kernel_rfl) (fun K hK => ?_)
              rw [if_pos (by rfl)]
              go_simp
              refine hK.out _ _ ?_
              clear hK K
              try simp only [Act.put, List.setIfInBounds_toArray, List.set_cons_zero, List.set_cons_succ]
              refine wpAny_done (by kernel_rfl) ?_ _
              go_wp2
              go_roundw
              case rel => exact ⟨1, by omega, by go_num, HX6.out.trans (Ext.of_drew w6)⟩
              case measure => (simp [intOf]; try omega)
        · obtain ⟨j, rfl⟩ : ∃ j, k = j + 1 := ⟨k - 1, by omega⟩
          have hpj := hprev j (by omega)
          obtain ⟨b2, off2, hb2, p0, _, _⟩ := HC.out j (by omega)
          obtain ⟨rfl, rfl, _⟩ := Addr.mk.inj (Option.some.inj hb2)
          have d3 := HX6.out.cell p0
          generalize (S6.range S.l f t)[j] = y at *
          have byx := bytesLess_eq y.key x.key
          rw [decide_eq_true hpj] at byx
          unfold strV at d3
          have e0 : decide ((0 : Int) < (j : Int) + 1) = true := decide_eq_true (by omega)
          have hjl : j < (S6.range S.l f t).length := by omega
          have hjj : (0 : Int) ≤ (j : Int) + 1 := by omega
          have hjk : (j : Int) + 1 < ((S6.range S.l f t).length : Int) := by omega
          have e1c : IntKind.i64.wrap (j : Int) = (j : Int) := by rw [IntKind.wrap_i64] <;> omega
          have e1b : IntKind.i64.wrap ((j : Int) + 1 - 1) = (j : Int) := by rw [IntKind.wrap_i64] <;> omega
          have e1 : IntKind.i64.wrap (((j + 1 : Nat) : Int) - 1) = (j : Int) := by rw [IntKind.wrap_i64] <;> omega
          clear hprev p0 hb2 hk0
          by_cases k3 : t = []
          · subst k3
            clear bxt
            have hHeld := Ext.of_drew w6
            refine wp_region_C (fun w' => Ext w6 w') 60 (by kernel_rfl) ?_
            (refine wpAnyC_take [1, 2, 16, 26, 35, 39, 48, 60] (i := 0) (oi := ⟨some 55, _, _, _, _, _⟩) (v := ?_) rfl (by kernel_rfl) (by kernel_rfl) (by kernel_rfl) (by kernel_rfl) (fun _ _ _ h => h) (Or.inl ⟨by rfl, ?_⟩) hHeld ?_; rotate_left; (focus (intro w hSw; (skip); go_simp; first | done | with_reducible rfl)); try simp only [Act.put, List.setIfInBounds_toArray, List.set_cons_zero, List.set_cons_succ])
            (refine wpAnyC_take [2, 16, 26, 35, 39, 48, 60] (i := 1) (oi := ⟨some 56, _, _, _, _, _⟩) (v := ?_) rfl (by kernel_rfl) (by kernel_rfl) (by kernel_rfl) (by kernel_rfl) (fun _ _ _ h => h) (Or.inl ⟨by rfl, ?_⟩) hHeld ?_; rotate_left; (focus (intro w hSw; (skip); go_simp; first | done | with_reducible rfl)); try simp only [Act.put, List.setIfInBounds_toArray, List.set_cons_zero, List.set_cons_succ])
            (refine wpAnyC_take [16, 26, 35, 39, 48, 60] (i := 2) (oi := ⟨some 57, _, _, _, _, _⟩) (v := ?_) rfl (by kernel_rfl) (by kernel_rfl) (by kernel_rfl) (by kernel_rfl) (fun _ _ _ h => h) (Or.inl ⟨by rfl, ?_⟩) hHeld ?_; rotate_left; (focus (intro w hSw; (skip); go_simp; first | done | with_reducible rfl)); try simp only [Act.put, List.setIfInBounds_toArray, List.set_cons_zero, List.set_cons_succ])
            (refine wpAnyC_take [6, 7, 8, 14, 15, 16, 26, 35, 39, 48, 60] (i := 3) (oi := ⟨some 58, _, _, _, _, _⟩) (v := ?_) rfl (by kernel_rfl) (by kernel_rfl) (by kernel_rfl) (by kernel_rfl) (fun _ _ _ h => h) (Or.inl ⟨by rfl, ?_⟩) hHeld ?_; rotate_left; (focus (intro w hSw; (skip); go_simp; first | done | with_reducible rfl)); try simp only [Act.put, List.setIfInBounds_toArray, List.set_cons_zero, List.set_cons_succ])
            (refine wpAnyC_take [5, 6, 7, 8, 14, 15, 16, 26, 35, 39, 48, 60] (i := 4) (oi := ⟨some 59, _, _, _, _, _⟩) (v := ?_) rfl (by kernel_rfl) (by kernel_rfl) (by kernel_rfl) (by kernel_rfl) (fun _ _ _ h => h) (Or.inl ⟨by rfl, ?_⟩) hHeld ?_; rotate_left; (focus (intro w hSw; (skip); go_simp; first | done | with_reducible rfl)); try simp only [Act.put, List.setIfInBounds_toArray, List.set_cons_zero, List.set_cons_succ])
            (refine wpAnyC_take [6, 7, 8, 14, 15, 16, 26, 35, 39, 48, 60] (i := 5) (oi := ⟨some 60, _, _, _, _, _⟩) (v := ?_) rfl (by kernel_rfl) (by kernel_rfl) (by kernel_rfl) (by kernel_rfl) (fun _ _ _ h => h) (Or.inl ⟨by rfl, ?_⟩) hHeld ?_; rotate_left; (focus (intro w hSw; (skip); go_simp; first | done | with_reducible rfl)); try simp only [Act.put, List.setIfInBounds_toArray, List.set_cons_zero, List.set_cons_succ])
            (refine wpAnyC_take [7, 8, 14, 15, 16, 26, 35, 39, 48, 60] (i := 6) (oi := ⟨some 61, _, _, _, _, _⟩) (v := ?_) rfl (by kernel_rfl) (by kernel_rfl) (by kernel_rfl) (by kernel_rfl) (fun _ _ _ h => h) (Or.inl ⟨by rfl, ?_⟩) hHeld ?_; rotate_left; (focus (intro w hSw; (skip); go_simp; first | done | with_reducible rfl)); try simp only [Act.put, List.setIfInBounds_toArray, List.set_cons_zero, List.set_cons_succ])
            (refine wpAnyC_take [8, 14, 15, 16, 26, 35, 39, 48, 60] (i := 7) (oi := ⟨some 62, _, _, _, _, _⟩) (v := ?_) rfl (by kernel_rfl) (by kernel_rfl) (by kernel_rfl) (by kernel_rfl) (fun _ _ _ h => h) (Or.inl ⟨by rfl, ?_⟩) hHeld ?_; rotate_left; (focus (intro w hSw; (skip); go_simp; first | done | with_reducible rfl)); try simp only [Act.put, List.setIfInBounds_toArray, List.set_cons_zero, List.set_cons_succ])
            (refine wpAnyC_take [14, 15, 16, 26, 35, 39, 48, 60] (i := 8) (oi := ⟨some 63, _, _, _, _, _⟩) (v := ?_) rfl (by kernel_rfl) (by kernel_rfl) (by kernel_rfl) (by kernel_rfl) (fun _ _ _ h => h) (Or.inl ⟨by rfl, ?_⟩) hHeld ?_; rotate_left; (focus (intro w hSw; ((have q := hSw.cell d3)); go_simp; first | done | with_reducible rfl)); try simp only [Act.put, List.setIfInBounds_toArray, List.set_cons_zero, List.set_cons_succ])
            (refine wpAnyC_take [11, 12, 13, 14, 15, 16, 26, 35, 39, 48, 60] (i := 9) (oi := ⟨some 64, _, _, _, _, _⟩) (v := ?_) rfl (by kernel_rfl) (by kernel_rfl) (by kernel_rfl) (by kernel_rfl) (fun _ _ _ h => h) (Or.inl ⟨by rfl, ?_⟩) hHeld ?_; rotate_left; (focus (intro w hSw; (skip); go_simp; first | done | with_reducible rfl)); try simp only [Act.put, List.setIfInBounds_toArray, List.set_cons_zero, List.set_cons_succ])
            (refine wpAnyC_take [11, 12, 13, 14, 15, 16, 26, 35, 39, 48, 60] (i := 10) (oi := ⟨some 65, _, _, _, _, _⟩) (v := ?_) rfl (by kernel_rfl) (by kernel_rfl) (by kernel_rfl) (by kernel_rfl) (fun _ _ _ h => h) (Or.inl ⟨by rfl, ?_⟩) hHeld ?_; rotate_left; (focus (intro w hSw; (skip); go_simp; first | done | with_reducible rfl)); try simp only [Act.put, List.setIfInBounds_toArray, List.set_cons_zero, List.set_cons_succ])
            (refine wpAnyC_take [12, 13, 14, 15, 16, 26, 35, 39, 48, 60] (i := 11) (oi := ⟨some 66, _, _, _, _, _⟩) (v := ?_) rfl (by kernel_rfl) (by kernel_rfl) (by kernel_rfl) (by kernel_rfl) (fun _ _ _ h => h) (Or.inl ⟨by rfl, ?_⟩) hHeld ?_; rotate_left; (focus (intro w hSw; (skip); go_simp; first | done | with_reducible rfl)); try simp only [Act.put, List.setIfInBounds_toArray, List.set_cons_zero, List.set_cons_succ])
            (refine wpAnyC_take [13, 14, 15, 16, 26, 35, 39, 48, 60] (i := 12) (oi := ⟨some 67, _, _, _, _, _⟩) (v := ?_) rfl (by kernel_rfl) (by kernel_rfl) (by kernel_rfl) (by kernel_rfl) (fun _ _ _ h => h) (Or.inl ⟨by rfl, ?_⟩) hHeld ?_; rotate_left; (focus (intro w hSw; (skip); go_simp; first | done | with_reducible rfl)); try simp only [Act.put, List.setIfInBounds_toArray, List.set_cons_zero, List.set_cons_succ])
            (refine wpAnyC_take [14, 15, 16, 26, 35, 39, 48, 60] (i := 13) (oi := ⟨some 68, _, _, _, _, _⟩) (v := ?_) rfl (by kernel_rfl) (by kernel_rfl) (by kernel_rfl) (by kernel_rfl) (fun _ _ _ h => h) (Or.inl ⟨by rfl, ?_⟩) hHeld ?_; rotate_left; (focus (intro w hSw; ((have q := hSw.cell d0)); go_simp; first | done | with_reducible rfl)); try simp only [Act.put, List.setIfInBounds_toArray, List.set_cons_zero, List.set_cons_succ])
            (refine wpAnyC_take [15, 16, 26, 35, 39, 48, 60] (i := 14) (oi := ⟨some 69, _, _, _, _, _⟩) (v := ?_) rfl (by kernel_rfl) (by kernel_rfl) (by kernel_rfl) (by kernel_rfl) (fun _ _ _ h => h) (Or.inl ⟨by rfl, ?_⟩) hHeld ?_; rotate_left; (focus (intro w hSw; (skip); go_simp; first | done | with_reducible rfl)); try simp only [Act.put, List.setIfInBounds_toArray, List.set_cons_zero, List.set_cons_succ])
            (refine wpAnyC_take [16, 26, 35, 39, 48, 60] (i := 15) (oi := ⟨some 70, _, _, _, _, _⟩) (v := ?_) rfl (by kernel_rfl) (by kernel_rfl) (by kernel_rfl) (by kernel_rfl) (fun _ _ _ h => h) (Or.inl ⟨by rfl, ?_⟩) hHeld ?_; rotate_left; (focus (intro w hSw; (skip); go_simp; first | done | with_reducible rfl)); try simp only [Act.put, List.setIfInBounds_toArray, List.set_cons_zero, List.set_cons_succ])
            (refine wpAnyC_take [26, 35, 39, 48, 60] (i := 16) (oi := ⟨some 71, _, _, _, _, _⟩) (v := ?_) rfl (by kernel_rfl) (by kernel_rfl) (by kernel_rfl) (by kernel_rfl) (fun _ _ _ h => h) (Or.inl ⟨by rfl, ?_⟩) hHeld ?_; rotate_left; (focus (intro w hSw; (skip); go_simp; first | done | with_reducible rfl)); try simp only [Act.put, List.setIfInBounds_toArray, List.set_cons_zero, List.set_cons_succ])
            (refine wpAnyC_take [18, 24, 25, 26, 35, 39, 48, 60] (i := 17) (oi := ⟨some 72, _, _, _, _, _⟩) (v := ?_) rfl (by kernel_rfl) (by kernel_rfl) (by kernel_rfl) (by kernel_rfl) (fun _ _ _ h => h) (Or.inl ⟨by rfl, ?_⟩) hHeld ?_; rotate_left; (focus (intro w hSw; (skip); go_simp; first | done | with_reducible rfl)); try simp only [Act.put, List.setIfInBounds_toArray, List.set_cons_zero, List.set_cons_succ])
            (refine wpAnyC_take [24, 25, 26, 35, 39, 48, 60] (i := 18) (oi := ⟨some 73, _, _, _, _, _⟩) (v := ?_) rfl (by kernel_rfl) (by kernel_rfl) (by kernel_rfl) (by kernel_rfl) (fun _ _ _ h => h) (Or.inl ⟨by rfl, ?_⟩) hHeld ?_; rotate_left; (focus (intro w hSw; ((have q := cv _ hSw)); go_simp; first | done | with_reducible rfl)); try simp only [Act.put, List.setIfInBounds_toArray, List.set_cons_zero, List.set_cons_succ])
            (refine wpAnyC_take [21, 22, 23, 24, 25, 26, 35, 39, 48, 60] (i := 19) (oi := ⟨some 74, _, _, _, _, _⟩) (v := ?_) rfl (by kernel_rfl) (by kernel_rfl) (by kernel_rfl) (by kernel_rfl) (fun _ _ _ h => h) (Or.inl ⟨by rfl, ?_⟩) hHeld ?_; rotate_left; (focus (intro w hSw; (skip); go_simp; first | done | with_reducible rfl)); try simp only [Act.put, List.setIfInBounds_toArray, List.set_cons_zero, List.set_cons_succ])
            (refine wpAnyC_take [21, 22, 23, 24, 25, 26, 35, 39, 48, 60] (i := 20) (oi := ⟨some 75, _, _, _, _, _⟩) (v := ?_) rfl (by kernel_rfl) (by kernel_rfl) (by kernel_rfl) (by kernel_rfl) (fun _ _ _ h => h) (Or.inl ⟨by rfl, ?_⟩) hHeld ?_; rotate_left; (focus (intro w hSw; (skip); go_simp; first | done | with_reducible rfl)); try simp only [Act.put, List.setIfInBounds_toArray, List.set_cons_zero, List.set_cons_succ])
            (refine wpAnyC_take [22, 23, 24, 25, 26, 35, 39, 48, 60] (i := 21) (oi := ⟨some 76, _, _, _, _, _⟩) (v := ?_) rfl (by kernel_rfl) (by kernel_rfl) (by kernel_rfl) (by kernel_rfl) (fun _ _ _ h => h) (Or.inl ⟨by rfl, ?_⟩) hHeld ?_; rotate_left; (focus (intro w hSw; (skip); go_simp; first | done | with_reducible rfl)); try simp only [Act.put, List.setIfInBounds_toArray, List.set_cons_zero, List.set_cons_succ])
            (refine wpAnyC_take [23, 24, 25, 26, 35, 39, 48, 60] (i := 22) (oi := ⟨some 77, _, _, _, _, _⟩) (v := ?_) rfl (by kernel_rfl) (by kernel_rfl) (by kernel_rfl) (by kernel_rfl) (fun _ _ _ h => h) (Or.inl ⟨by rfl, ?_⟩) hHeld ?_; rotate_left; (focus (intro w hSw; (skip); go_simp; first | done | with_reducible rfl)); try simp only [Act.put, List.setIfInBounds_toArray, List.set_cons_zero, List.set_cons_succ])
            (refine wpAnyC_take [24, 25, 26, 35, 39, 48, 60] (i := 23) (oi := ⟨some 78, _, _, _, _, _⟩) (v := ?_) rfl (by kernel_rfl) (by kernel_rfl) (by kernel_rfl) (by kernel_rfl) (fun _ _ _ h => h) (Or.inl ⟨by rfl, ?_⟩) hHeld ?_; rotate_left; (focus (intro w hSw; ((have q := hSw.cell d1)); go_simp; first | done | with_reducible rfl)); try simp only [Act.put, List.setIfInBounds_toArray, List.set_cons_zero, List.set_cons_succ])
            (refine wpAnyC_take [25, 26, 35, 39, 48, 60] (i := 24) (oi := ⟨some 79, _, _, _, _, _⟩) (v := ?_) rfl (by kernel_rfl) (by kernel_rfl) (by kernel_rfl) (by kernel_rfl) (fun _ _ _ h => h) (Or.inl ⟨by rfl, ?_⟩) hHeld ?_; rotate_left; (focus (intro w hSw; (skip); go_simp; first | done | with_reducible rfl)); try simp only [Act.put, List.setIfInBounds_toArray, List.set_cons_zero, List.set_cons_succ])
            (refine wpAnyC_take [26, 35, 39, 48, 60] (i := 25) (oi := ⟨some 80, _, _, _, _, _⟩) (v := ?_) rfl (by kernel_rfl) (by kernel_rfl) (by kernel_rfl) (by kernel_rfl) (fun _ _ _ h => h) (Or.inl ⟨by rfl, ?_⟩) hHeld ?_; rotate_left; (focus (intro w hSw; (skip); go_simp; first | done | with_reducible rfl)); try simp only [Act.put, List.setIfInBounds_toArray, List.set_cons_zero, List.set_cons_succ])
            (refine wpAnyC_take [35, 39, 48, 60] (i := 26) (oi := ⟨some 81, _, _, _, _, _⟩) (v := ?_) rfl (by kernel_rfl) (by kernel_rfl) (by kernel_rfl) (by kernel_rfl) (fun _ _ _ h => h) (Or.inl ⟨by rfl, ?_⟩) hHeld ?_; rotate_left; (focus (intro w hSw; (skip); go_simp; first | done | with_reducible rfl)); try simp only [Act.put, List.setIfInBounds_toArray, List.set_cons_zero, List.set_cons_succ])
            (refine wpAnyC_take [33, 34, 35, 39, 48, 60] (i := 27) (oi := ⟨some 82, _, _, _, _, _⟩) (v := ?_) rfl (by kernel_rfl) (by kernel_rfl) (by kernel_rfl) (by kernel_rfl) (fun _ _ _ h => h) (Or.inl ⟨by rfl, ?_⟩) hHeld ?_; rotate_left; (focus (intro w hSw; (skip); go_simp; first | done | with_reducible rfl)); try simp only [Act.put, List.setIfInBounds_toArray, List.set_cons_zero, List.set_cons_succ])
            (refine wpAnyC_take [30, 31, 32, 33, 34, 35, 39, 48, 60] (i := 28) (oi := ⟨some 83, _, _, _, _, _⟩) (v := ?_) rfl (by kernel_rfl) (by kernel_rfl) (by kernel_rfl) (by kernel_rfl) (fun _ _ _ h => h) (Or.inl ⟨by rfl, ?_⟩) hHeld ?_; rotate_left; (focus (intro w hSw; (skip); go_simp; first | done | with_reducible rfl)); try simp only [Act.put, List.setIfInBounds_toArray, List.set_cons_zero, List.set_cons_succ])
            (refine wpAnyC_take [30, 31, 32, 33, 34, 35, 39, 48, 60] (i := 29) (oi := ⟨some 84, _, _, _, _, _⟩) (v := ?_) rfl (by kernel_rfl) (by kernel_rfl) (by kernel_rfl) (by kernel_rfl) (fun _ _ _ h => h) (Or.inl ⟨by rfl, ?_⟩) hHeld ?_; rotate_left; (focus (intro w hSw; (skip); go_simp; first | done | with_reducible rfl)); try simp only [Act.put, List.setIfInBounds_toArray, List.set_cons_zero, List.set_cons_succ])
            (refine wpAnyC_take [31, 32, 33, 34, 35, 39, 48, 60] (i := 30) (oi := ⟨some 85, _, _, _, _, _⟩) (v := ?_) rfl (by kernel_rfl) (by kernel_rfl) (by kernel_rfl) (by kernel_rfl) (fun _ _ _ h => h) (Or.inl ⟨by rfl, ?_⟩) hHeld ?_; rotate_left; (focus (intro w hSw; (skip); go_simp; first | done | with_reducible rfl)); try simp only [Act.put, List.setIfInBounds_toArray, List.set_cons_zero, List.set_cons_succ])
            (refine wpAnyC_take [32, 33, 34, 35, 39, 48, 60] (i := 31) (oi := ⟨some 86, _, _, _, _, _⟩) (v := ?_) rfl (by kernel_rfl) (by kernel_rfl) (by kernel_rfl) (by kernel_rfl) (fun _ _ _ h => h) (Or.inl ⟨by rfl, ?_⟩) hHeld ?_; rotate_left; (focus (intro w hSw; (skip); go_simp; first | done | with_reducible rfl)); try simp only [Act.put, List.setIfInBounds_toArray, List.set_cons_zero, List.set_cons_succ])
            (refine wpAnyC_take [33, 34, 35, 39, 48, 60] (i := 32) (oi := ⟨some 87, _, _, _, _, _⟩) (v := ?_) rfl (by kernel_rfl) (by kernel_rfl) (by kernel_rfl) (by kernel_rfl) (fun _ _ _ h => h) (Or.inl ⟨by rfl, ?_⟩) hHeld ?_; rotate_left; (focus (intro w hSw; ((have q := hSw.cell d2)); go_simp; first | done | with_reducible rfl)); try simp only [Act.put, List.setIfInBounds_toArray, List.set_cons_zero, List.set_cons_succ])
            (refine wpAnyC_take [34, 35, 39, 48, 60] (i := 33) (oi := ⟨some 88, _, _, _, _, _⟩) (v := ?_) rfl (by kernel_rfl) (by kernel_rfl) (by kernel_rfl) (by kernel_rfl) (fun _ _ _ h => h) (Or.inl ⟨by rfl, ?_⟩) hHeld ?_; rotate_left; (focus (intro w hSw; (skip); go_simp; first | done | with_reducible rfl)); try simp only [Act.put, List.setIfInBounds_toArray, List.set_cons_zero, List.set_cons_succ])
            (refine wpAnyC_take [35, 39, 48, 60] (i := 34) (oi := ⟨some 89, _, _, _, _, _⟩) (v := ?_) rfl (by kernel_rfl) (by kernel_rfl) (by kernel_rfl) (by kernel_rfl) (fun _ _ _ h => h) (Or.inl ⟨by rfl, ?_⟩) hHeld ?_; rotate_left; (focus (intro w hSw; (skip); go_simp; first | done | with_reducible rfl)); try simp only [Act.put, List.setIfInBounds_toArray, List.set_cons_zero, List.set_cons_succ])
            (refine wpAnyC_take [39, 48, 60] (i := 35) (oi := ⟨some 90, _, _, _, _, _⟩) (v := ?_) rfl (by kernel_rfl) (by kernel_rfl) (by kernel_rfl) (by kernel_rfl) (fun _ _ _ h => h) (Or.inl ⟨by rfl, ?_⟩) hHeld ?_; rotate_left; (focus (intro w hSw; (skip); go_simp; first | done | with_reducible rfl)); try simp only [Act.put, List.setIfInBounds_toArray, List.set_cons_zero, List.set_cons_succ])
            (refine wpAnyC_take [37, 38, 39, 48, 60] (i := 36) (oi := ⟨some 91, _, _, _, _, _⟩) (v := ?_) rfl (by kernel_rfl) (by kernel_rfl) (by kernel_rfl) (by kernel_rfl) (fun _ _ _ h => h) (Or.inl ⟨by rfl, ?_⟩) hHeld ?_; rotate_left; (focus (intro w hSw; (skip); go_simp; first | done | with_reducible rfl)); try simp only [Act.put, List.setIfInBounds_toArray, List.set_cons_zero, List.set_cons_succ])
            (refine wpAnyC_take [38, 39, 48, 60] (i := 37) (oi := ⟨some 92, _, _, _, _, _⟩) (v := ?_) rfl (by kernel_rfl) (by kernel_rfl) (by kernel_rfl) (by kernel_rfl) (fun _ _ _ h => h) (Or.inl ⟨by rfl, ?_⟩) hHeld ?_; rotate_left; (focus (intro w hSw; (skip); go_simp; first | done | with_reducible rfl)); try simp only [Act.put, List.setIfInBounds_toArray, List.set_cons_zero, List.set_cons_succ])
            (refine wpAnyC_take [39, 48, 60] (i := 38) (oi := ⟨some 93, _, _, _, _, _⟩) (v := ?_) rfl (by kernel_rfl) (by kernel_rfl) (by kernel_rfl) (by kernel_rfl) (fun _ _ _ h => h) (Or.inl ⟨by rfl, ?_⟩) hHeld ?_; rotate_left; (focus (intro w hSw; (skip); go_simp; first | done | with_reducible rfl)); try simp only [Act.put, List.setIfInBounds_toArray, List.set_cons_zero, List.set_cons_succ])
            (refine wpAnyC_take [48, 60] (i := 39) (oi := ⟨some 94, _, _, _, _, _⟩) (v := ?_) rfl (by kernel_rfl) (by kernel_rfl) (by kernel_rfl) (by kernel_rfl) (fun _ _ _ h => h) (Or.inl ⟨by rfl, ?_⟩) hHeld ?_; rotate_left; (focus (intro w hSw; (skip); go_simp; first | done | with_reducible rfl)); try simp only [Act.put, List.setIfInBounds_toArray, List.set_cons_zero, List.set_cons_succ])
            (refine wpAnyC_take [42, 43, 44, 46, 47, 48, 60] (i := 40) (oi := ⟨some 95, _, _, _, _, _⟩) (v := ?_) rfl (by kernel_rfl) (by kernel_rfl) (by kernel_rfl) (by kernel_rfl) (fun _ _ _ h => h) (Or.inl ⟨by rfl, ?_⟩) hHeld ?_; rotate_left; (focus (intro w hSw; (skip); go_simp; first | done | with_reducible rfl)); try simp only [Act.put, List.setIfInBounds_toArray, List.set_cons_zero, List.set_cons_succ])
            (refine wpAnyC_take [42, 43, 44, 46, 47, 48, 60] (i := 41) (oi := ⟨some 96, _, _, _, _, _⟩) (v := ?_) rfl (by kernel_rfl) (by kernel_rfl) (by kernel_rfl) (by kernel_rfl) (fun _ _ _ h => h) (Or.inl ⟨by rfl, ?_⟩) hHeld ?_; rotate_left; (focus (intro w hSw; (skip); go_simp; first | done | with_reducible rfl)); try simp only [Act.put, List.setIfInBounds_toArray, List.set_cons_zero, List.set_cons_succ])
            (refine wpAnyC_take [43, 44, 46, 47, 48, 60] (i := 42) (oi := ⟨some 97, _, _, _, _, _⟩) (v := ?_) rfl (by kernel_rfl) (by kernel_rfl) (by kernel_rfl) (by kernel_rfl) (fun _ _ _ h => h) (Or.inl ⟨by rfl, ?_⟩) hHeld ?_; rotate_left; (focus (intro w hSw; (skip); go_simp; first | done | with_reducible rfl)); try simp only [Act.put, List.setIfInBounds_toArray, List.set_cons_zero, List.set_cons_succ])
            (refine wpAnyC_take [44, 46, 47, 48, 60] (i := 43) (oi := ⟨some 98, _, _, _, _, _⟩) (v := ?_) rfl (by kernel_rfl) (by kernel_rfl) (by kernel_rfl) (by kernel_rfl) (fun _ _ _ h => h) (Or.inl ⟨by rfl, ?_⟩) hHeld ?_; rotate_left; (focus (intro w hSw; (skip); go_simp; first | done | with_reducible rfl)); try simp only [Act.put, List.setIfInBounds_toArray, List.set_cons_zero, List.set_cons_succ])
            (refine wpAnyC_take [46, 47, 48, 60] (i := 44) (oi := ⟨some 99, _, _, _, _, _⟩) (v := ?_) rfl (by kernel_rfl) (by kernel_rfl) (by kernel_rfl) (by kernel_rfl) (fun _ _ _ h => h) (Or.inl ⟨by rfl, ?_⟩) hHeld ?_; rotate_left; (focus (intro w hSw; ((have q := hSw.cell d0)); go_simp; first | done | with_reducible rfl)); try simp only [Act.put, List.setIfInBounds_toArray, List.set_cons_zero, List.set_cons_succ])
            (refine wpAnyC_take [46, 47, 48, 60] (i := 45) (oi := ⟨some 100, _, _, _, _, _⟩) (v := ?_) rfl (by kernel_rfl) (by kernel_rfl) (by kernel_rfl) (by kernel_rfl) (fun _ _ _ h => h) (Or.inl ⟨by rfl, ?_⟩) hHeld ?_; rotate_left; (focus (intro w hSw; (skip); go_simp; first | done | with_reducible rfl)); try simp only [Act.put, List.setIfInBounds_toArray, List.set_cons_zero, List.set_cons_succ])
            (refine wpAnyC_take [47, 48, 60] (i := 46) (oi := ⟨some 101, _, _, _, _, _⟩) (v := ?_) rfl (by kernel_rfl) (by kernel_rfl) (by kernel_rfl) (by kernel_rfl) (fun _ _ _ h => h) (Or.inl ⟨by rfl, ?_⟩) hHeld ?_; rotate_left; (focus (intro w hSw; (skip); go_simp; first | done | with_reducible rfl)); try simp only [Act.put, List.setIfInBounds_toArray, List.set_cons_zero, List.set_cons_succ])
            (refine wpAnyC_take [48, 60] (i := 47) (oi := ⟨some 102, _, _, _, _, _⟩) (v := ?_) rfl (by kernel_rfl) (by kernel_rfl) (by kernel_rfl) (by kernel_rfl) (fun _ _ _ h => h) (Or.inl ⟨by rfl, ?_⟩) hHeld ?_; rotate_left; (focus (intro w hSw; (skip); go_simp; first | done | with_reducible rfl)); try simp only [Act.put, List.setIfInBounds_toArray, List.set_cons_zero, List.set_cons_succ])
            (refine wpAnyC_take [60] (i := 48) (oi := ⟨some 103, _, _, _, _, _⟩) (v := ?_) rfl (by kernel_rfl) (by kernel_rfl) (by kernel_rfl) (by kernel_rfl) (fun _ _ _ h => h) (Or.inl ⟨by rfl, ?_⟩) hHeld ?_; rotate_left; (focus (intro w hSw; (skip); go_simp; first | done | with_reducible rfl)); try simp only [Act.put, List.setIfInBounds_toArray, List.set_cons_zero, List.set_cons_succ])
            (refine wpAnyC_take [50, 51, 59, 60] (i := 49) (oi := ⟨some 104, _, _, _, _, _⟩) (v := ?_) rfl (by kernel_rfl) (by kernel_rfl) (by kernel_rfl) (by kernel_rfl) (fun _ _ _ h => h) (Or.inl ⟨by rfl, ?_⟩) hHeld ?_; rotate_left; (focus (intro w hSw; (skip); go_simp; first | done | with_reducible rfl)); try simp only [Act.put, List.setIfInBounds_toArray, List.set_cons_zero, List.set_cons_succ])
            (refine wpAnyC_take [51, 59, 60] (i := 50) (oi := ⟨some 105, _, _, _, _, _⟩) (v := ?_) rfl (by kernel_rfl) (by kernel_rfl) (by kernel_rfl) (by kernel_rfl) (fun _ _ _ h => h) (Or.inl ⟨by rfl, ?_⟩) hHeld ?_; rotate_left; (focus (intro w hSw; (skip); go_simp; first | done | with_reducible rfl)); try simp only [Act.put, List.setIfInBounds_toArray, List.set_cons_zero, List.set_cons_succ])
            (refine wpAnyC_take [59, 60] (i := 51) (oi := ⟨some 106, _, _, _, _, _⟩) (v := ?_) rfl (by kernel_rfl) (by kernel_rfl) (by kernel_rfl) (by kernel_rfl) (fun _ _ _ h => h) (Or.inl ⟨by rfl, ?_⟩) hHeld ?_; rotate_left; (focus (intro w hSw; (skip); go_simp; first | done | with_reducible rfl)); try simp only [Act.put, List.setIfInBounds_toArray, List.set_cons_zero, List.set_cons_succ])
            (refine wpAnyC_take [54, 55, 56, 58, 59, 60] (i := 52) (oi := ⟨some 107, _, _, _, _, _⟩) (v := undef) rfl (by kernel_rfl) (by kernel_rfl) (by kernel_rfl) (by kernel_rfl) (fun _ _ _ h => h) (Or.inr ⟨by rfl, rfl⟩) hHeld ?_; try simp only [Act.put, List.setIfInBounds_toArray, List.set_cons_zero, List.set_cons_succ])
            (refine wpAnyC_take [54, 55, 56, 58, 59, 60] (i := 53) (oi := ⟨some 108, _, _, _, _, _⟩) (v := undef) rfl (by kernel_rfl) (by kernel_rfl) (by kernel_rfl) (by kernel_rfl) (fun _ _ _ h => h) (Or.inr ⟨by rfl, rfl⟩) hHeld ?_; try simp only [Act.put, List.setIfInBounds_toArray, List.set_cons_zero, List.set_cons_succ])
            (refine wpAnyC_take [55, 56, 58, 59, 60] (i := 54) (oi := ⟨some 109, _, _, _, _, _⟩) (v := undef) rfl (by kernel_rfl) (by kernel_rfl) (by kernel_rfl) (by kernel_rfl) (fun _ _ _ h => h) (Or.inr ⟨by rfl, rfl⟩) hHeld ?_; try simp only [Act.put, List.setIfInBounds_toArray, List.set_cons_zero, List.set_cons_succ])
            (refine wpAnyC_take [56, 58, 59, 60] (i := 55) (oi := ⟨some 110, _, _, _, _, _⟩) (v := undef) rfl (by kernel_rfl) (by kernel_rfl) (by kernel_rfl) (by kernel_rfl) (fun _ _ _ h => h) (Or.inr ⟨by rfl, rfl⟩) hHeld ?_; try simp only [Act.put, List.setIfInBounds_toArray, List.set_cons_zero, List.set_cons_succ])
            (refine wpAnyC_take [58, 59, 60] (i := 56) (oi := ⟨some 111, _, _, _, _, _⟩) (v := undef) rfl (by kernel_rfl) (by kernel_rfl) (by kernel_rfl) (by kernel_rfl) (fun _ _ _ h => h) (Or.inr ⟨by rfl, rfl⟩) hHeld ?_; try simp only [Act.put, List.setIfInBounds_toArray, List.set_cons_zero, List.set_cons_succ])
            (refine wpAnyC_take [58, 59, 60] (i := 57) (oi := ⟨some 112, _, _, _, _, _⟩) (v := undef) rfl (by kernel_rfl) (by kernel_rfl) (by kernel_rfl) (by kernel_rfl) (fun _ _ _ h => h) (Or.inr ⟨by rfl, rfl⟩) hHeld ?_; try simp only [Act.put, List.setIfInBounds_toArray, List.set_cons_zero, List.set_cons_succ])
            (refine wpAnyC_take [59, 60] (i := 58) (oi := ⟨some 113, _, _, _, _, _⟩) (v := undef) rfl (by kernel_rfl) (by kernel_rfl) (by kernel_rfl) (by kernel_rfl) (fun _ _ _ h => h) (Or.inr ⟨by rfl, rfl⟩) hHeld ?_; try simp only [Act.put, List.setIfInBounds_toArray, List.set_cons_zero, List.set_cons_succ])
            (refine wpAnyC_take [60] (i := 59) (oi := ⟨some 114, _, _, _, _, _⟩) (v := ?_) rfl (by kernel_rfl) (by kernel_rfl) (by kernel_rfl) (by kernel_rfl) (fun _ _ _ h => h) (Or.inl ⟨by rfl, ?_⟩) hHeld ?_; rotate_left; (focus (intro w hSw; (skip); go_simp; first | done | with_reducible rfl)); try simp only [Act.put, List.setIfInBounds_toArray, List.set_cons_zero, List.set_cons_succ])
            refine wpAnyC_c (oi := ⟨some 115, _, _, _, _, _⟩) rfl (by kernel_rfl) (fun K hK => ?_)
            rw [if_pos (by rfl)]
            go_simp
            refine hK.out _ _ ?_
            clear hK K
            try simp only [Act.put, List.setIfInBounds_toArray, List.set_cons_zero, List.set_cons_succ]
            refine wpAny_done (by kernel_rfl) ?_ _
            go_wp2
            go_roundw
            case rel => exact ⟨j + 2, by omega, by go_num, HX6.out.trans (Ext.of_drew w6)⟩
            case measure => (simp [intOf]; try omega)
          · have k3b : (t != ([] : List UInt8)) = true := by rw [bne_iff_ne]; exact k3
            have k3c : (t == ([] : List UInt8)) = false := by rw [beq_eq_false_iff_ne]; exact k3
            rcases hmem.2.2 with h9 | h9
            · exact absurd h9 k3
            · rw [decide_eq_true h9] at bxt
              have hHeld := Ext.of_drew w6
              refine wp_region_C (fun w' => Ext w6 w') 60 (by kernel_rfl) ?_
              (refine wpAnyC_take [1, 2, 16, 26, 35, 39, 48, 60] (i := 0) (oi := ⟨some 55, _, _, _, _, _⟩) (v := ?_) rfl (by kernel_rfl) (by kernel_rfl) (by kernel_rfl) (by kernel_rfl) (fun _ _ _ h => h) (Or.inl ⟨by rfl, ?_⟩) hHeld ?_; rotate_left; (focus (intro w hSw; (skip); go_simp; first | done | with_reducible rfl)); try simp only [Act.put, List.setIfInBounds_toArray, List.set_cons_zero, List.set_cons_succ])
              (refine wpAnyC_take [2, 16, 26, 35, 39, 48, 60] (i := 1) (oi := ⟨some 56, _, _, _, _, _⟩) (v := ?_) rfl (by kernel_rfl) (by kernel_rfl) (by kernel_rfl) (by kernel_rfl) (fun _ _ _ h => h) (Or.inl ⟨by rfl, ?_⟩) hHeld ?_; rotate_left; (focus (intro w hSw; (skip); go_simp; first | done | with_reducible rfl)); try simp only [Act.put, List.setIfInBounds_toArray, List.set_cons_zero, List.set_cons_succ])
              (refine wpAnyC_take [16, 26, 35, 39, 48, 60] (i := 2) (oi := ⟨some 57, _, _, _, _, _⟩) (v := ?_) rfl (by kernel_rfl) (by kernel_rfl) (by kernel_rfl) (by kernel_rfl) (fun _ _ _ h => h) (Or.inl ⟨by rfl, ?_⟩) hHeld ?_; rotate_left; (focus (intro w hSw; (skip); go_simp; first | done | with_reducible rfl)); try simp only [Act.put, List.setIfInBounds_toArray, List.set_cons_zero, List.set_cons_succ])
              (refine wpAnyC_take [6, 7, 8, 14, 15, 16, 26, 35, 39, 48, 60] (i := 3) (oi := ⟨some 58, _, _, _, _, _⟩) (v := ?_) rfl (by kernel_rfl) (by kernel_rfl) (by kernel_rfl) (by kernel_rfl) (fun _ _ _ h => h) (Or.inl ⟨by rfl, ?_⟩) hHeld ?_; rotate_left; (focus (intro w hSw; (skip); go_simp; first | done | with_reducible rfl)); try simp only [Act.put, List.setIfInBounds_toArray, List.set_cons_zero, List.set_cons_succ])
              (refine wpAnyC_take [5, 6, 7, 8, 14, 15, 16, 26, 35, 39, 48, 60] (i := 4) (oi := ⟨some 59, _, _, _, _, _⟩) (v := ?_) rfl (by kernel_rfl) (by kernel_rfl) (by kernel_rfl) (by kernel_rfl) (fun _ _ _ h => h) (Or.inl ⟨by rfl, ?_⟩) hHeld ?_; rotate_left; (focus (intro w hSw; (skip); go_simp; first | done | with_reducible rfl)); try simp only [Act.put, List.setIfInBounds_toArray, List.set_cons_zero, List.set_cons_succ])
              (refine wpAnyC_take [6, 7, 8, 14, 15, 16, 26, 35, 39, 48, 60] (i := 5) (oi := ⟨some 60, _, _, _, _, _⟩) (v := ?_) rfl (by kernel_rfl) (by kernel_rfl) (by kernel_rfl) (by kernel_rfl) (fun _ _ _ h => h) (Or.inl ⟨by rfl, ?_⟩) hHeld ?_; rotate_left; (focus (intro w hSw; (skip); go_simp; first | done | with_reducible rfl)); try simp only [Act.put, List.setIfInBounds_toArray, List.set_cons_zero, List.set_cons_succ])
              (refine wpAnyC_take [7, 8, 14, 15, 16, 26, 35, 39, 48, 60] (i := 6) (oi := ⟨some 61, _, _, _, _, _⟩) (v := ?_) rfl (by kernel_rfl) (by kernel_rfl) (by kernel_rfl) (by kernel_rfl) (fun _ _ _ h => h) (Or.inl ⟨by rfl, ?_⟩) hHeld ?_; rotate_left; (focus (intro w hSw; (skip); go_simp; first | done | with_reducible rfl)); try simp only [Act.put, List.setIfInBounds_toArray, List.set_cons_zero, List.set_cons_succ])
              (refine wpAnyC_take [8, 14, 15, 16, 26, 35, 39, 48, 60] (i := 7) (oi := ⟨some 62, _, _, _, _, _⟩) (v := ?_) rfl (by kernel_rfl) (by kernel_rfl) (by kernel_rfl) (by kernel_rfl) (fun _ _ _ h => h) (Or.inl ⟨by rfl, ?_⟩) hHeld ?_; rotate_left; (focus (intro w hSw; (skip); go_simp; first | done | with_reducible rfl)); try simp only [Act.put, List.setIfInBounds_toArray, List.set_cons_zero, List.set_cons_succ])
              (refine wpAnyC_take [14, 15, 16, 26, 35, 39, 48, 60] (i := 8) (oi := ⟨some 63, _, _, _, _, _⟩) (v := ?_) rfl (by kernel_rfl) (by kernel_rfl) (by kernel_rfl) (by kernel_rfl) (fun _ _ _ h => h) (Or.inl ⟨by rfl, ?_⟩) hHeld ?_; rotate_left; (focus (intro w hSw; ((have q := hSw.cell d3)); go_simp; first | done | with_reducible rfl)); try simp only [Act.put, List.setIfInBounds_toArray, List.set_cons_zero, List.set_cons_succ])
              (refine wpAnyC_take [11, 12, 13, 14, 15, 16, 26, 35, 39, 48, 60] (i := 9) (oi := ⟨some 64, _, _, _, _, _⟩) (v := ?_) rfl (by kernel_rfl) (by kernel_rfl) (by kernel_rfl) (by kernel_rfl) (fun _ _ _ h => h) (Or.inl ⟨by rfl, ?_⟩) hHeld ?_; rotate_left; (focus (intro w hSw; (skip); go_simp; first | done | with_reducible rfl)); try simp only [Act.put, List.setIfInBounds_toArray, List.set_cons_zero, List.set_cons_succ])
              (refine wpAnyC_take [11, 12, 13, 14, 15, 16, 26, 35, 39, 48, 60] (i := 10) (oi := ⟨some 65, _, _, _, _, _⟩) (v := ?_) rfl (by kernel_rfl) (by kernel_rfl) (by kernel_rfl) (by kernel_rfl) (fun _ _ _ h => h) (Or.inl ⟨by rfl, ?_⟩) hHeld ?_; rotate_left; (focus (intro w hSw; (skip); go_simp; first | done | with_reducible rfl)); try simp only [Act.put, List.setIfInBounds_toArray, List.set_cons_zero, List.set_cons_succ])
              (refine wpAnyC_take [12, 13, 14, 15, 16, 26, 35, 39, 48, 60] (i := 11) (oi := ⟨some 66, _, _, _, _, _⟩) (v := ?_) rfl (by kernel_rfl) (by kernel_rfl) (by kernel_rfl) (by kernel_rfl) (fun _ _ _ h => h) (Or.inl ⟨by rfl, ?_⟩) hHeld ?_; rotate_left; (focus (intro w hSw; (skip); go_simp; first | done | with_reducible rfl)); try simp only [Act.put, List.setIfInBounds_toArray, List.set_cons_zero, List.set_cons_succ])
              (refine wpAnyC_take [13, 14, 15, 16, 26, 35, 39, 48, 60] (i := 12) (oi := ⟨some 67, _, _, _, _, _⟩) (v := ?_) rfl (by kernel_rfl) (by kernel_rfl) (by kernel_rfl) (by kernel_rfl) (fun _ _ _ h => h) (Or.inl ⟨by rfl, ?_⟩) hHeld ?_; rotate_left; (focus (intro w hSw; (skip); go_simp; first | done | with_reducible rfl)); try simp only [Act.put, List.setIfInBounds_toArray, List.set_cons_zero, List.set_cons_succ])
              (refine wpAnyC_take [14, 15, 16, 26, 35, 39, 48, 60] (i := 13) (oi := ⟨some 68, _, _, _, _, _⟩) (v := ?_) rfl (by kernel_rfl) (by kernel_rfl) (by kernel_rfl) (by kernel_rfl) (fun _ _ _ h => h) (Or.inl ⟨by rfl, ?_⟩) hHeld ?_; rotate_left; (focus (intro w hSw; ((have q := hSw.cell d0)); go_simp; first | done | with_reducible rfl)); try simp only [Act.put, List.setIfInBounds_toArray, List.set_cons_zero, List.set_cons_succ])
              (refine wpAnyC_take [15, 16, 26, 35, 39, 48, 60] (i := 14) (oi := ⟨some 69, _, _, _, _, _⟩) (v := ?_) rfl (by kernel_rfl) (by kernel_rfl) (by kernel_rfl) (by kernel_rfl) (fun _ _ _ h => h) (Or.inl ⟨by rfl, ?_⟩) hHeld ?_; rotate_left; (focus (intro w hSw; (skip); go_simp; first | done | with_reducible rfl)); try simp only [Act.put, List.setIfInBounds_toArray, List.set_cons_zero, List.set_cons_succ])
              (refine wpAnyC_take [16, 26, 35, 39, 48, 60] (i := 15) (oi := ⟨some 70, _, _, _, _, _⟩) (v := ?_) rfl (by kernel_rfl) (by kernel_rfl) (by kernel_rfl) (by kernel_rfl) (fun _ _ _ h => h) (Or.inl ⟨by rfl, ?_⟩) hHeld ?_; rotate_left; (focus (intro w hSw; (skip); go_simp; first | done | with_reducible rfl)); try simp only [Act.put, List.setIfInBounds_toArray, List.set_cons_zero, List.set_cons_succ])
              (refine wpAnyC_take [26, 35, 39, 48, 60] (i := 16) (oi := ⟨some 71, _, _, _, _, _⟩) (v := ?_) rfl (by kernel_rfl) (by kernel_rfl) (by kernel_rfl) (by kernel_rfl) (fun _ _ _ h => h) (Or.inl ⟨by rfl, ?_⟩) hHeld ?_; rotate_left; (focus (intro w hSw; (skip); go_simp; first | done | with_reducible rfl)); try simp only [Act.put, List.setIfInBounds_toArray, List.set_cons_zero, List.set_cons_succ])
              (refine wpAnyC_take [18, 24, 25, 26, 35, 39, 48, 60] (i := 17) (oi := ⟨some 72, _, _, _, _, _⟩) (v := ?_) rfl (by kernel_rfl) (by kernel_rfl) (by kernel_rfl) (by kernel_rfl) (fun _ _ _ h => h) (Or.inl ⟨by rfl, ?_⟩) hHeld ?_; rotate_left; (focus (intro w hSw; (skip); go_simp; first | done | with_reducible rfl)); try simp only [Act.put, List.setIfInBounds_toArray, List.set_cons_zero, List.set_cons_succ])
              (refine wpAnyC_take [24, 25, 26, 35, 39, 48, 60] (i := 18) (oi := ⟨some 73, _, _, _, _, _⟩) (v := ?_) rfl (by kernel_rfl) (by kernel_rfl) (by kernel_rfl) (by kernel_rfl) (fun _ _ _ h => h) (Or.inl ⟨by rfl, ?_⟩) hHeld ?_; rotate_left; (focus (intro w hSw; ((have q := cv _ hSw)); go_simp; first | done | with_reducible rfl)); try simp only [Act.put, List.setIfInBounds_toArray, List.set_cons_zero, List.set_cons_succ])
              (refine wpAnyC_take [21, 22, 23, 24, 25, 26, 35, 39, 48, 60] (i := 19) (oi := ⟨some 74, _, _, _, _, _⟩) (v := ?_) rfl (by kernel_rfl) (by kernel_rfl) (by kernel_rfl) (by kernel_rfl) (fun _ _ _ h => h) (Or.inl ⟨by rfl, ?_⟩) hHeld ?_; rotate_left; (focus (intro w hSw; (skip); go_simp; first | done | with_reducible rfl)); try simp only [Act.put, List.setIfInBounds_toArray, List.set_cons_zero, List.set_cons_succ])
              (refine wpAnyC_take [21, 22, 23, 24, 25, 26, 35, 39, 48, 60] (i := 20) (oi := ⟨some 75, _, _, _, _, _⟩) (v := ?_) rfl (by kernel_rfl) (by kernel_rfl) (by kernel_rfl) (by kernel_rfl) (fun _ _ _ h => h) (Or.inl ⟨by rfl, ?_⟩) hHeld ?_; rotate_left; (focus (intro w hSw; (skip); go_simp; first | done | with_reducible rfl)); try simp only [Act.put, List.setIfInBounds_toArray, List.set_cons_zero, List.set_cons_succ])
              (refine wpAnyC_take [22, 23, 24, 25, 26, 35, 39, 48, 60] (i := 21) (oi := ⟨some 76, _, _, _, _, _⟩) (v := ?_) rfl (by kernel_rfl) (by kernel_rfl) (by kernel_rfl) (by kernel_rfl) (fun _ _ _ h => h) (Or.inl ⟨by rfl, ?_⟩) hHeld ?_; rotate_left; (focus (intro w hSw; (skip); go_simp; first | done | with_reducible rfl)); try simp only [Act.put, List.setIfInBounds_toArray, List.set_cons_zero, List.set_cons_succ])
              (refine wpAnyC_take [23, 24, 25, 26, 35, 39, 48, 60] (i := 22) (oi := ⟨some 77, _, _, _, _, _⟩) (v := ?_) rfl (by kernel_rfl) (by kernel_rfl) (by kernel_rfl) (by kernel_rfl) (fun _ _ _ h => h) (Or.inl ⟨by rfl, ?_⟩) hHeld ?_; rotate_left; (focus (intro w hSw; (skip); go_simp; first | done | with_reducible rfl)); try simp only [Act.put, List.setIfInBounds_toArray, List.set_cons_zero, List.set_cons_succ])
              (refine wpAnyC_take [24, 25, 26, 35, 39, 48, 60] (i := 23) (oi := ⟨some 78, _, _, _, _, _⟩) (v := ?_) rfl (by kernel_rfl) (by kernel_rfl) (by kernel_rfl) (by kernel_rfl) (fun _ _ _ h => h) (Or.inl ⟨by rfl, ?_⟩) hHeld ?_; rotate_left; (focus (intro w hSw; ((have q := hSw.cell d1)); go_simp; first | done | with_reducible rfl)); try simp only [Act.put, List.setIfInBounds_toArray, List.set_cons_zero, List.set_cons_succ])
              (refine wpAnyC_take [25, 26, 35, 39, 48, 60] (i := 24) (oi := ⟨some 79, _, _, _, _, _⟩) (v := ?_) rfl (by kernel_rfl) (by kernel_rfl) (by kernel_rfl) (by kernel_rfl) (fun _ _ _ h => h) (Or.inl ⟨by rfl, ?_⟩) hHeld ?_; rotate_left; (focus (intro w hSw; (skip); go_simp; first | done | with_reducible rfl)); try simp only [Act.put, List.setIfInBounds_toArray, List.set_cons_zero, List.set_cons_succ])
              (refine wpAnyC_take [26, 35, 39, 48, 60] (i := 25) (oi := ⟨some 80, _, _, _, _, _⟩) (v := ?_) rfl (by kernel_rfl) (by kernel_rfl) (by kernel_rfl) (by kernel_rfl) (fun _ _ _ h => h) (Or.inl ⟨by rfl, ?_⟩) hHeld ?_; rotate_left; (focus (intro w hSw; (skip); go_simp; first | done | with_reducible rfl)); try simp only [Act.put, List.setIfInBounds_toArray, List.set_cons_zero, List.set_cons_succ])
              (refine wpAnyC_take [35, 39, 48, 60] (i := 26) (oi := ⟨some 81, _, _, _, _, _⟩) (v := ?_) rfl (by kernel_rfl) (by kernel_rfl) (by kernel_rfl) (by kernel_rfl) (fun _ _ _ h => h) (Or.inl ⟨by rfl, ?_⟩) hHeld ?_; rotate_left; (focus (intro w hSw; (skip); go_simp; first | done | with_reducible rfl)); try simp only [Act.put, List.setIfInBounds_toArray, List.set_cons_zero, List.set_cons_succ])
              (refine wpAnyC_take [33, 34, 35, 39, 48, 60] (i := 27) (oi := ⟨some 82, _, _, _, _, _⟩) (v := ?_) rfl (by kernel_rfl) (by kernel_rfl) (by kernel_rfl) (by kernel_rfl) (fun _ _ _ h => h) (Or.inl ⟨by rfl, ?_⟩) hHeld ?_; rotate_left; (focus (intro w hSw; (skip); go_simp; first | done | with_reducible rfl)); try simp only [Act.put, List.setIfInBounds_toArray, List.set_cons_zero, List.set_cons_succ])
              (refine wpAnyC_take [30, 31, 32, 33, 34, 35, 39, 48, 60] (i := 28) (oi := ⟨some 83, _, _, _, _, _⟩) (v := ?_) rfl (by kernel_rfl) (by kernel_rfl) (by kernel_rfl) (by kernel_rfl) (fun _ _ _ h => h) (Or.inl ⟨by rfl, ?_⟩) hHeld ?_; rotate_left; (focus (intro w hSw; (skip); go_simp; first | done | with_reducible rfl)); try simp only [Act.put, List.setIfInBounds_toArray, List.set_cons_zero, List.set_cons_succ])
              (refine wpAnyC_take [30, 31, 32, 33, 34, 35, 39, 48, 60] (i := 29) (oi := ⟨some 84, _, _, _, _, _⟩) (v := ?_) rfl (by kernel_rfl) (by kernel_rfl) (by kernel_rfl) (by kernel_rfl) (fun _ _ _ h => h) (Or.inl ⟨by rfl, ?_⟩) hHeld ?_; rotate_left; (focus (intro w hSw; (skip); go_simp; first | done | with_reducible rfl)); try simp only [Act.put, List.setIfInBounds_toArray, List.set_cons_zero, List.set_cons_succ])
              (refine wpAnyC_take [31, 32, 33, 34, 35, 39, 48, 60] (i := 30) (oi := ⟨some 85, _, _, _, _, _⟩) (v := ?_) rfl (by kernel_rfl) (by kernel_rfl) (by kernel_rfl) (by kernel_rfl) (fun _ _ _ h => h) (Or.inl ⟨by rfl, ?_⟩) hHeld ?_; rotate_left; (focus (intro w hSw; (skip); go_simp; first | done | with_reducible rfl)); try simp only [Act.put, List.setIfInBounds_toArray, List.set_cons_zero, List.set_cons_succ])
              (refine wpAnyC_take [32, 33, 34, 35, 39, 48, 60] (i := 31) (oi := ⟨some 86, _, _, _, _, _⟩) (v := ?_) rfl (by kernel_rfl) (by kernel_rfl) (by kernel_rfl) (by kernel_rfl) (fun _ _ _ h => h) (Or.inl ⟨by rfl, ?_⟩) hHeld ?_; rotate_left; (focus (intro w hSw; (skip); go_simp; first | done | with_reducible rfl)); try simp only [Act.put, List.setIfInBounds_toArray, List.set_cons_zero, List.set_cons_succ])
              (refine wpAnyC_take [33, 34, 35, 39, 48, 60] (i := 32) (oi := ⟨some 87, _, _, _, _, _⟩) (v := ?_) rfl (by kernel_rfl) (by kernel_rfl) (by kernel_rfl) (by kernel_rfl) (fun _ _ _ h => h) (Or.inl ⟨by rfl, ?_⟩) hHeld ?_; rotate_left; (focus (intro w hSw; ((have q := hSw.cell d2)); go_simp; first | done | with_reducible rfl)); try simp only [Act.put, List.setIfInBounds_toArray, List.set_cons_zero, List.set_cons_succ])
              (refine wpAnyC_take [34, 35, 39, 48, 60] (i := 33) (oi := ⟨some 88, _, _, _, _, _⟩) (v := ?_) rfl (by kernel_rfl) (by kernel_rfl) (by kernel_rfl) (by kernel_rfl) (fun _ _ _ h => h) (Or.inl ⟨by rfl, ?_⟩) hHeld ?_; rotate_left; (focus (intro w hSw; (skip); go_simp; first | done | with_reducible rfl)); try simp only [Act.put, List.setIfInBounds_toArray, List.set_cons_zero, List.set_cons_succ])
              (refine wpAnyC_take [35, 39, 48, 60] (i := 34) (oi := ⟨some 89, _, _, _, _, _⟩) (v := ?_) rfl (by kernel_rfl) (by kernel_rfl) (by kernel_rfl) (by kernel_rfl) (fun _ _ _ h => h) (Or.inl ⟨by rfl, ?_⟩) hHeld ?_; rotate_left; (focus (intro w hSw; (skip); go_simp; first | done | with_reducible rfl)); try simp only [Act.put, List.setIfInBounds_toArray, List.set_cons_zero, List.set_cons_succ])
              (refine wpAnyC_take [39, 48, 60] (i := 35) (oi := ⟨some 90, _, _, _, _, _⟩) (v := ?_) rfl (by kernel_rfl) (by kernel_rfl) (by kernel_rfl) (by kernel_rfl) (fun _ _ _ h => h) (Or.inl ⟨by rfl, ?_⟩) hHeld ?_; rotate_left; (focus (intro w hSw; (skip); go_simp; first | done | with_reducible rfl)); try simp only [Act.put, List.setIfInBounds_toArray, List.set_cons_zero, List.set_cons_succ])
              (refine wpAnyC_take [37, 38, 39, 48, 60] (i := 36) (oi := ⟨some 91, _, _, _, _, _⟩) (v := ?_) rfl (by kernel_rfl) (by kernel_rfl) (by kernel_rfl) (by kernel_rfl) (fun _ _ _ h => h) (Or.inl ⟨by rfl, ?_⟩) hHeld ?_; rotate_left; (focus (intro w hSw; (skip); go_simp; first | done | with_reducible rfl)); try simp only [Act.put, List.setIfInBounds_toArray, List.set_cons_zero, List.set_cons_succ])
              (refine wpAnyC_take [38, 39, 48, 60] (i := 37) (oi := ⟨some 92, _, _, _, _, _⟩) (v := ?_) rfl (by kernel_rfl) (by kernel_rfl) (by kernel_rfl) (by kernel_rfl) (fun _ _ _ h => h) (Or.inl ⟨by rfl, ?_⟩) hHeld ?_; rotate_left; (focus (intro w hSw; (skip); go_simp; first | done | with_reducible rfl)); try simp only [Act.put, List.setIfInBounds_toArray, List.set_cons_zero, List.set_cons_succ])
              (refine wpAnyC_take [39, 48, 60] (i := 38) (oi := ⟨some 93, _, _, _, _, _⟩) (v := ?_) rfl (by kernel_rfl) (by kernel_rfl) (by kernel_rfl) (by kernel_rfl) (fun _ _ _ h => h) (Or.inl ⟨by rfl, ?_⟩) hHeld ?_; rotate_left; (focus (intro w hSw; (skip); go_simp; first | done | with_reducible rfl)); try simp only [Act.put, List.setIfInBounds_toArray, List.set_cons_zero, List.set_cons_succ])
              (refine wpAnyC_take [48, 60] (i := 39) (oi := ⟨some 94, _, _, _, _, _⟩) (v := ?_) rfl (by kernel_rfl) (by kernel_rfl) (by kernel_rfl) (by kernel_rfl) (fun _ _ _ h => h) (Or.inl ⟨by rfl, ?_⟩) hHeld ?_; rotate_left; (focus (intro w hSw; (skip); go_simp; first | done | with_reducible rfl)); try simp only [Act.put, List.setIfInBounds_toArray, List.set_cons_zero, List.set_cons_succ])
              (refine wpAnyC_take [42, 43, 44, 46, 47, 48, 60] (i := 40) (oi := ⟨some 95, _, _, _, _, _⟩) (v := ?_) rfl (by kernel_rfl) (by kernel_rfl) (by kernel_rfl) (by kernel_rfl) (fun _ _ _ h => h) (Or.inl ⟨by rfl, ?_⟩) hHeld ?_; rotate_left; (focus (intro w hSw; (skip); go_simp; first | done | with_reducible rfl)); try simp only [Act.put, List.setIfInBounds_toArray, List.set_cons_zero, List.set_cons_succ])
              (refine wpAnyC_take [42, 43, 44, 46, 47, 48, 60] (i := 41) (oi := ⟨some 96, _, _, _, _, _⟩) (v := ?_) rfl (by kernel_rfl) (by kernel_rfl) (by kernel_rfl) (by kernel_rfl) (fun _ _ _ h => h) (Or.inl ⟨by rfl, ?_⟩) hHeld ?_; rotate_left; (focus (intro w hSw; (skip); go_simp; first | done | with_reducible rfl)); try simp only [Act.put, List.setIfInBounds_toArray, List.set_cons_zero, List.set_cons_succ])
              (refine wpAnyC_take [43, 44, 46, 47, 48, 60] (i := 42) (oi := ⟨some 97, _, _, _, _, _⟩) (v := ?_) rfl (by kernel_rfl) (by kernel_rfl) (by kernel_rfl) (by kernel_rfl) (fun _ _ _ h => h) (Or.inl ⟨by rfl, ?_⟩) hHeld ?_; rotate_left; (focus (intro w hSw; (skip); go_simp; first | done | with_reducible rfl)); try simp only [Act.put, List.setIfInBounds_toArray, List.set_cons_zero, List.set_cons_succ])
              (refine wpAnyC_take [44, 46, 47, 48, 60] (i := 43) (oi := ⟨some 98, _, _, _, _, _⟩) (v := ?_) rfl (by kernel_rfl) (by kernel_rfl) (by kernel_rfl) (by kernel_rfl) (fun _ _ _ h => h) (Or.inl ⟨by rfl, ?_⟩) hHeld ?_; rotate_left; (focus (intro w hSw; (skip); go_simp; first | done | with_reducible rfl)); try simp only [Act.put, List.setIfInBounds_toArray, List.set_cons_zero, List.set_cons_succ])
              (refine wpAnyC_take [46, 47, 48, 60] (i := 44) (oi := ⟨some 99, _, _, _, _, _⟩) (v := ?_) rfl (by kernel_rfl) (by kernel_rfl) (by kernel_rfl) (by kernel_rfl) (fun _ _ _ h => h) (Or.inl ⟨by rfl, ?_⟩) hHeld ?_; rotate_left; (focus (intro w hSw; ((have q := hSw.cell d0)); go_simp; first | done | with_reducible rfl)); try simp only [Act.put, List.setIfInBounds_toArray, List.set_cons_zero, List.set_cons_succ])
              (refine wpAnyC_take [46, 47, 48, 60] (i := 45) (oi := ⟨some 100, _, _, _, _, _⟩) (v := ?_) rfl (by kernel_rfl) (by kernel_rfl) (by kernel_rfl) (by kernel_rfl) (fun _ _ _ h => h) (Or.inl ⟨by rfl, ?_⟩) hHeld ?_; rotate_left; (focus (intro w hSw; (skip); go_simp; first | done | with_reducible rfl)); try simp only [Act.put, List.setIfInBounds_toArray, List.set_cons_zero, List.set_cons_succ])
              (refine wpAnyC_take [47, 48, 60] (i := 46) (oi := ⟨some 101, _, _, _, _, _⟩) (v := ?_) rfl (by kernel_rfl) (by kernel_rfl) (by kernel_rfl) (by kernel_rfl) (fun _ _ _ h => h) (Or.inl ⟨by rfl, ?_⟩) hHeld ?_; rotate_left; (focus (intro w hSw; (skip); go_simp; first | done | with_reducible rfl)); try simp only [Act.put, List.setIfInBounds_toArray, List.set_cons_zero, List.set_cons_succ])
              (refine wpAnyC_take [48, 60] (i := 47) (oi := ⟨some 102, _, _, _, _, _⟩) (v := ?_) rfl (by kernel_rfl) (by kernel_rfl) (by kernel_rfl) (by kernel_rfl) (fun _ _ _ h => h) (Or.inl ⟨by rfl, ?_⟩) hHeld ?_; rotate_left; (focus (intro w hSw; (skip); go_simp; first | done | with_reducible rfl)); try simp only [Act.put, List.setIfInBounds_toArray, List.set_cons_zero, List.set_cons_succ])
              (refine wpAnyC_take [60] (i := 48) (oi := ⟨some 103, _, _, _, _, _⟩) (v := ?_) rfl (by kernel_rfl) (by kernel_rfl) (by kernel_rfl) (by kernel_rfl) (fun _ _ _ h => h) (Or.inl ⟨by rfl, ?_⟩) hHeld ?_; rotate_left; (focus (intro w hSw; (skip); go_simp; first | done | with_reducible rfl)); try simp only [Act.put, List.setIfInBounds_toArray, List.set_cons_zero, List.set_cons_succ])
              (refine wpAnyC_take [50, 51, 59, 60] (i := 49) (oi := ⟨some 104, _, _, _, _, _⟩) (v := ?_) rfl (by kernel_rfl) (by kernel_rfl) (by kernel_rfl) (by kernel_rfl) (fun _ _ _ h => h) (Or.inl ⟨by rfl, ?_⟩) hHeld ?_; rotate_left; (focus (intro w hSw; (skip); go_simp; first | done | with_reducible rfl)); try simp only [Act.put, List.setIfInBounds_toArray, List.set_cons_zero, List.set_cons_succ])
              (refine wpAnyC_take [51, 59, 60] (i := 50) (oi := ⟨some 105, _, _, _, _, _⟩) (v := ?_) rfl (by kernel_rfl) (by kernel_rfl) (by kernel_rfl) (by kernel_rfl) (fun _ _ _ h => h) (Or.inl ⟨by rfl, ?_⟩) hHeld ?_; rotate_left; (focus (intro w hSw; (skip); go_simp; first | done | with_reducible rfl)); try simp only [Act.put, List.setIfInBounds_toArray, List.set_cons_zero, List.set_cons_succ])
              (refine wpAnyC_take [59, 60] (i := 51) (oi := ⟨some 106, _, _, _, _, _⟩) (v := ?_) rfl (by kernel_rfl) (by kernel_rfl) (by kernel_rfl) (by kernel_rfl) (fun _ _ _ h => h) (Or.inl ⟨by rfl, ?_⟩) hHeld ?_; rotate_left; (focus (intro w hSw; (skip); go_simp; first | done | with_reducible rfl)); try simp only [Act.put, List.setIfInBounds_toArray, List.set_cons_zero, List.set_cons_succ])
              (refine wpAnyC_take [54, 55, 56, 58, 59, 60] (i := 52) (oi := ⟨some 107, _, _, _, _, _⟩) (v := ?_) rfl (by kernel_rfl) (by kernel_rfl) (by kernel_rfl) (by kernel_rfl) (fun _ _ _ h => h) (Or.inl ⟨by rfl, ?_⟩) hHeld ?_; rotate_left; (focus (intro w hSw; (skip); go_simp; first | done | with_reducible rfl)); try simp only [Act.put, List.setIfInBounds_toArray, List.set_cons_zero, List.set_cons_succ])
              (refine wpAnyC_take [54, 55, 56, 58, 59, 60] (i := 53) (oi := ⟨some 108, _, _, _, _, _⟩) (v := ?_) rfl (by kernel_rfl) (by kernel_rfl) (by kernel_rfl) (by kernel_rfl) (fun _ _ _ h => h) (Or.inl ⟨by rfl, ?_⟩) hHeld ?_; rotate_left; (focus (intro w hSw; (skip); go_simp; first | done | with_reducible rfl)); try simp only [Act.put, List.setIfInBounds_toArray, List.set_cons_zero, List.set_cons_succ])
              (refine wpAnyC_take [55, 56, 58, 59, 60] (i := 54) (oi := ⟨some 109, _, _, _, _, _⟩) (v := ?_) rfl (by kernel_rfl) (by kernel_rfl) (by kernel_rfl) (by kernel_rfl) (fun _ _ _ h => h) (Or.inl ⟨by rfl, ?_⟩) hHeld ?_; rotate_left; (focus (intro w hSw; (skip); go_simp; first | done | with_reducible rfl)); try simp only [Act.put, List.setIfInBounds_toArray, List.set_cons_zero, List.set_cons_succ])
              (refine wpAnyC_take [56, 58, 59, 60] (i := 55) (oi := ⟨some 110, _, _, _, _, _⟩) (v := ?_) rfl (by kernel_rfl) (by kernel_rfl) (by kernel_rfl) (by kernel_rfl) (fun _ _ _ h => h) (Or.inl ⟨by rfl, ?_⟩) hHeld ?_; rotate_left; (focus (intro w hSw; (skip); go_simp; first | done | with_reducible rfl)); try simp only [Act.put, List.setIfInBounds_toArray, List.set_cons_zero, List.set_cons_succ])
              (refine wpAnyC_take [58, 59, 60] (i := 56) (oi := ⟨some 111, _, _, _, _, _⟩) (v := ?_) rfl (by kernel_rfl) (by kernel_rfl) (by kernel_rfl) (by kernel_rfl) (fun _ _ _ h => h) (Or.inl ⟨by rfl, ?_⟩) hHeld ?_; rotate_left; (focus (intro w hSw; ((have q := hSw.cell d0)); go_simp; first | done | with_reducible rfl)); try simp only [Act.put, List.setIfInBounds_toArray, List.set_cons_zero, List.set_cons_succ])
              (refine wpAnyC_take [58, 59, 60] (i := 57) (oi := ⟨some 112, _, _, _, _, _⟩) (v := ?_) rfl (by kernel_rfl) (by kernel_rfl) (by kernel_rfl) (by kernel_rfl) (fun _ _ _ h => h) (Or.inl ⟨by rfl, ?_⟩) hHeld ?_; rotate_left; (focus (intro w hSw; (skip); go_simp; first | done | with_reducible rfl)); try simp only [Act.put, List.setIfInBounds_toArray, List.set_cons_zero, List.set_cons_succ])
              (refine wpAnyC_take [59, 60] (i := 58) (oi := ⟨some 113, _, _, _, _, _⟩) (v := ?_) rfl (by kernel_rfl) (by kernel_rfl) (by kernel_rfl) (by kernel_rfl) (fun _ _ _ h => h) (Or.inl ⟨by rfl, ?_⟩) hHeld ?_; rotate_left; (focus (intro w hSw; (skip); go_simp; first | done | with_reducible rfl)); try simp only [Act.put, List.setIfInBounds_toArray, List.set_cons_zero, List.set_cons_succ])
              (refine wpAnyC_take [60] (i := 59) (oi := ⟨some 114, _, _, _, _, _⟩) (v := ?_) rfl (by kernel_rfl) (by kernel_rfl) (by kernel_rfl) (by kernel_rfl) (fun _ _ _ h => h) (Or.inl ⟨by rfl, ?_⟩) hHeld ?_; rotate_left; (focus (intro w hSw; (skip); go_simp; first | done | with_reducible rfl)); try simp only [Act.put, List.setIfInBounds_toArray, List.set_cons_zero, List.set_cons_succ])
              refine wpAnyC_c (oi := ⟨some 115, _, _, _, _, _⟩) rfl (by kernel_rfl) (fun K hK => ?_)
              rw [if_pos (by rfl)]
              go_simp
              refine hK.out _ _ ?_
              clear hK K
              try simp only [Act.put, List.setIfInBounds_toArray, List.set_cons_zero, List.set_cons_succ]
              refine wpAny_done (by kernel_rfl) ?_ _
              go_wp2
              go_roundw
              case rel => exact ⟨j + 2, by omega, by go_num, HX6.out.trans (Ext.of_drew w6)⟩
              case measure => (simp [intOf]; try omega)
      · have hge : ¬ (k : Int) < ((S6.range S.l f t).length : Int) := by omega
        have bcf := bytesLess_eq c f
        have bct := bytesLess_eq c t
        have bft := bytesLess_eq f t
        by_cases k1 : c = []
        · subst k1
          clear bcf bct bft
          go_wp2
          go_ret
          exact ⟨rfl, (HX1.out.trans (HL5.out.toExt.trans hX.out))⟩
        · have k1b : (c == ([] : List UInt8)) = false := by rw [beq_eq_false_iff_ne]; exact k1
          by_cases k2 : c < f
          · rw [decide_eq_true k2] at bcf
            clear bct bft
            go_wp2
            go_ret
            exact ⟨rfl, (HX1.out.trans (HL5.out.toExt.trans hX.out))⟩
          · rw [decide_eq_false k2] at bcf
            by_cases k3 : t = []
            · subst k3
              clear bct bft
              have hx6a := hX.out
              have hrg := stod_range (HL5.out.after hX.out) f c
              have HRG := Lib.hid hrg
              clear hrg
              go_wp2_with fail
              refine HRG.out.mono ?_
              clear HRG
              rintro e w6 ⟨v6, us6, rfl, hP6, hx6⟩
              have hl6 := S6.range_len_le S.l f c
              have hpr := pairs6_ext hP6 hx6 (by omega) (fun p hp => by have := (HPK.out p (S6.range_mem hp).1).val; omega)
              have HPR := Lib.hid hpr
              obtain ⟨a6, c6, rfl⟩ := own_any hP6.row
              clear hP6 hx6 hpr
              go_wp2_with fail
              refine HPR.out.mono ?_
              clear HPR
              rintro e w7 ⟨v7, rfl, hown7, hx7⟩
              obtain ⟨a7, c7, rfl⟩ := own_any hown7
              have HO7 := Lib.hid hown7
              have HX7 := Lib.hid hx7
              have hrg := stod_range (HL5.out.after (hX.out.trans hx7)) c []
              have HRG := Lib.hid hrg
              clear hrg hown7 hx7
              go_wp2_with fail
              refine HRG.out.mono ?_
              clear HRG
              rintro e w8 ⟨v8, us8, rfl, hP8, hx8⟩
              have hl8 := S6.range_len_le S.l c []
              have hpr := pairs6_ext hP8 hx8 (by omega) (fun p hp => by have := (HPK.out p (S6.range_mem hp).1).val; omega)
              have HPR := Lib.hid hpr
              obtain ⟨a8, c8, rfl⟩ := own_any hP8.row
              clear hP8 hx8 hpr
              go_wp2_with fail
              refine HPR.out.mono ?_
              clear HPR
              rintro e w9 ⟨v9, rfl, hown9, hx9⟩
              obtain ⟨a9, c9, rfl⟩ := own_any hown9
              have HO9 := Lib.hid hown9
              have HX9 := Lib.hid (HX7.out.trans hx9)
              have HO79 := Lib.hid (hx9.keptOwn HO7.out)
              have hsz9 := HX9.out.size
              have hb1 := hsz9
              clear hown9 hx9 HO7
              have hn1 : (S6.range S.l f c).length + (S6.range S.l c []).length ≤ maxLen := by unfold maxLen; omega
              have hn2 : ((S6.range S.l f c).length + (S6.range S.l c []).length) * 40 ≤ 140737488355328 := by omega
              obtain ⟨i0, z0, hi0, hz0, hz1, hz2, hz3⟩ := el_rpair.info
              go_wp2_with (first
                | ((with_reducible show wpList _ _ _ (⟨some 142, _, _, _, _, _⟩ :: _) _ _); refine wpl_append_row w9 rfl _ _ 34 rfl wr.heap.size 54 i0 z0 3 40 el_rpair.und hi0 hz0 hz1 hz2 hz3 (by decide) (.slice a7 (S6.range S.l f c).length c7) _ _ (by rfl) HO79.out (.slice a9 (S6.range S.l c []).length c9) _ _ _ (by rfl) HO9.out (prcs_one _ _ (svals_one _)) hn1 hn2 hsz9 ?_; intro v10 w10 hown10 hgrow10; have HX10 := Lib.hid (HX9.out.grown hgrow10 (fun k hk => (HO79.out.lt k hk).1)); have HO10 := Lib.hid hown10; clear hown10 hgrow10)
                | fail)
              have hown10 := HO10.out
              rw [← prcs_append _ _ _ _ (svals_len _), ← svals_append, ← List.length_append, ← S6.range_cut HSR.out k1 k2 (.inl rfl)] at hown10
              refine (same6_any _ _ _ _ _ (HRP.out.ext (hX.out.trans HX10.out)) (RPs.of_own hown10)).mono ?_
              rintro e w11 ⟨r, rfl, hr, hx11⟩
              obtain rfl : r = true := hr.2 rfl
              have HX11 := Lib.hid (HX10.out.trans hx11)
              have hrg := stod_range (HL5.out.after (hX.out.trans HX11.out)) [] []
              rw [S6.range_all] at hrg
              have HRG := Lib.hid hrg
              clear hown10 hx11 HO10 HO79 HO9 hrg hr
              go_wp2_with fail
              refine HRG.out.mono ?_
              clear HRG
              rintro e w12 ⟨v12, us12, rfl, hP12, hx12⟩
              obtain ⟨a12, c12, rfl⟩ := own_any hP12.row
              have HX12 := Lib.hid (HX11.out.trans hx12)
              have hle := stod_len (HL5.out.after (hX.out.trans HX12.out))
              have HLE := Lib.hid hle
              clear hP12 hx12 hle
              go_wp2_with fail
              refine HLE.out.mono ?_
              rintro e w13 ⟨rfl, rfl⟩
              go_wp2
              go_ret
              exact ⟨by simp, (HX1.out.trans (HL5.out.toExt.trans (hX.out.trans HX12.out)))⟩
            · have k3b : (t != ([] : List UInt8)) = true := by rw [bne_iff_ne]; exact k3
              have k3c : (t == ([] : List UInt8)) = false := by rw [beq_eq_false_iff_ne]; exact k3
              by_cases k4 : t < c
              · have k4b : (c == t) = false := by rw [beq_eq_false_iff_ne]; exact fun e => S6.lt_irr c (by rw [← e] at k4; exact k4)
                rw [decide_eq_false (S6.lt_asy k4)] at bct
                clear bft
                go_wp2
                go_ret
                exact ⟨rfl, (HX1.out.trans (HL5.out.toExt.trans hX.out))⟩
              · by_cases k6 : c = t
                · have k6b : (c == t) = true := by rw [beq_iff_eq]; exact k6
                  clear bct k6
                  have hx6a := hX.out
                  have hrg := stod_range (HL5.out.after hX.out) f c
                  have HRG := Lib.hid hrg
                  clear hrg
                  go_wp2_with fail
                  refine HRG.out.mono ?_
                  clear HRG
                  rintro e w6 ⟨v6, us6, rfl, hP6, hx6⟩
                  have hl6 := S6.range_len_le S.l f c
                  have hpr := pairs6_ext hP6 hx6 (by omega) (fun p hp => by have := (HPK.out p (S6.range_mem hp).1).val; omega)
                  have HPR := Lib.hid hpr
                  obtain ⟨a6, c6, rfl⟩ := own_any hP6.row
                  clear hP6 hx6 hpr
                  go_wp2_with fail
                  refine HPR.out.mono ?_
                  clear HPR
                  rintro e w7 ⟨v7, rfl, hown7, hx7⟩
                  obtain ⟨a7, c7, rfl⟩ := own_any hown7
                  have HO7 := Lib.hid hown7
                  have HX7 := Lib.hid hx7
                  have hrg := stod_range (HL5.out.after (hX.out.trans hx7)) c t
                  have HRG := Lib.hid hrg
                  clear hrg hown7 hx7
                  go_wp2_with fail
                  refine HRG.out.mono ?_
                  clear HRG
                  rintro e w8 ⟨v8, us8, rfl, hP8, hx8⟩
                  have hl8 := S6.range_len_le S.l c t
                  have hpr := pairs6_ext hP8 hx8 (by omega) (fun p hp => by have := (HPK.out p (S6.range_mem hp).1).val; omega)
                  have HPR := Lib.hid hpr
                  obtain ⟨a8, c8, rfl⟩ := own_any hP8.row
                  clear hP8 hx8 hpr
                  go_wp2_with fail
                  refine HPR.out.mono ?_
                  clear HPR
                  rintro e w9 ⟨v9, rfl, hown9, hx9⟩
                  obtain ⟨a9, c9, rfl⟩ := own_any hown9
                  have HO9 := Lib.hid hown9
                  have HX9 := Lib.hid (HX7.out.trans hx9)
                  have HO79 := Lib.hid (hx9.keptOwn HO7.out)
                  have hsz9 := HX9.out.size
                  have hb1 := hsz9
                  clear hown9 hx9 HO7
                  have hn1 : (S6.range S.l f c).length + (S6.range S.l c t).length ≤ maxLen := by unfold maxLen; omega
                  have hn2 : ((S6.range S.l f c).length + (S6.range S.l c t).length) * 40 ≤ 140737488355328 := by omega
                  obtain ⟨i0, z0, hi0, hz0, hz1, hz2, hz3⟩ := el_rpair.info
                  go_wp2_with (first
                    | ((with_reducible show wpList _ _ _ (⟨some 142, _, _, _, _, _⟩ :: _) _ _); refine wpl_append_row w9 rfl _ _ 34 rfl wr.heap.size 54 i0 z0 3 40 el_rpair.und hi0 hz0 hz1 hz2 hz3 (by decide) (.slice a7 (S6.range S.l f c).length c7) _ _ (by rfl) HO79.out (.slice a9 (S6.range S.l c t).length c9) _ _ _ (by rfl) HO9.out (prcs_one _ _ (svals_one _)) hn1 hn2 hsz9 ?_; intro v10 w10 hown10 hgrow10; have HX10 := Lib.hid (HX9.out.grown hgrow10 (fun k hk => (HO79.out.lt k hk).1)); have HO10 := Lib.hid hown10; clear hown10 hgrow10)
                    | fail)
                  have hown10 := HO10.out
                  rw [← prcs_append _ _ _ _ (svals_len _), ← svals_append, ← List.length_append, ← S6.range_cut HSR.out k1 k2 (.inr k4)] at hown10
                  refine (same6_any _ _ _ _ _ (HRP.out.ext (hX.out.trans HX10.out)) (RPs.of_own hown10)).mono ?_
                  rintro e w11 ⟨r, rfl, hr, hx11⟩
                  obtain rfl : r = true := hr.2 rfl
                  have HX11 := Lib.hid (HX10.out.trans hx11)
                  have hrg := stod_range (HL5.out.after (hX.out.trans HX11.out)) [] []
                  rw [S6.range_all] at hrg
                  have HRG := Lib.hid hrg
                  clear hown10 hx11 HO10 HO79 HO9 hrg hr
                  go_wp2_with fail
                  refine HRG.out.mono ?_
                  clear HRG
                  rintro e w12 ⟨v12, us12, rfl, hP12, hx12⟩
                  obtain ⟨a12, c12, rfl⟩ := own_any hP12.row
                  have HX12 := Lib.hid (HX11.out.trans hx12)
                  have hle := stod_len (HL5.out.after (hX.out.trans HX12.out))
                  have HLE := Lib.hid hle
                  clear hP12 hx12 hle
                  go_wp2_with fail
                  refine HLE.out.mono ?_
                  rintro e w13 ⟨rfl, rfl⟩
                  by_cases k5 : f < t
                  · rw [decide_eq_true k5] at bft
                    go_wp2
                    go_ret
                    exact ⟨by simp, (HX1.out.trans (HL5.out.toExt.trans (hX.out.trans HX12.out)))⟩
                  · rw [decide_eq_false k5] at bft
                    have hz : (((S6.range S.l f t).length : Int) == 0) = true := by rw [S6.range_none k3 k5]; rfl
                    go_wp2
                    go_ret
                    exact ⟨by simp, (HX1.out.trans (HL5.out.toExt.trans (hX.out.trans HX12.out)))⟩
                · have k6b : c < t := by
                    rcases S6.lt_tri c t with h | h | h
                    · exact h
                    · exact absurd h k6
                    · exact absurd h k4
                  rw [decide_eq_true k6b] at bct
                  have hx6a := hX.out
                  have hrg := stod_range (HL5.out.after hX.out) f c
                  have HRG := Lib.hid hrg
                  clear hrg
                  go_wp2_with fail
                  refine HRG.out.mono ?_
                  clear HRG
                  rintro e w6 ⟨v6, us6, rfl, hP6, hx6⟩
                  have hl6 := S6.range_len_le S.l f c
                  have hpr := pairs6_ext hP6 hx6 (by omega) (fun p hp => by have := (HPK.out p (S6.range_mem hp).1).val; omega)
                  have HPR := Lib.hid hpr
                  obtain ⟨a6, c6, rfl⟩ := own_any hP6.row
                  clear hP6 hx6 hpr
                  go_wp2_with fail
                  refine HPR.out.mono ?_
                  clear HPR
                  rintro e w7 ⟨v7, rfl, hown7, hx7⟩
                  obtain ⟨a7, c7, rfl⟩ := own_any hown7
                  have HO7 := Lib.hid hown7
                  have HX7 := Lib.hid hx7
                  have hrg := stod_range (HL5.out.after (hX.out.trans hx7)) c t
                  have HRG := Lib.hid hrg
                  clear hrg hown7 hx7
                  go_wp2_with fail
                  refine HRG.out.mono ?_
                  clear HRG
                  rintro e w8 ⟨v8, us8, rfl, hP8, hx8⟩
                  have hl8 := S6.range_len_le S.l c t
                  have hpr := pairs6_ext hP8 hx8 (by omega) (fun p hp => by have := (HPK.out p (S6.range_mem hp).1).val; omega)
                  have HPR := Lib.hid hpr
                  obtain ⟨a8, c8, rfl⟩ := own_any hP8.row
                  clear hP8 hx8 hpr
                  go_wp2_with fail
                  refine HPR.out.mono ?_
                  clear HPR
                  rintro e w9 ⟨v9, rfl, hown9, hx9⟩
                  obtain ⟨a9, c9, rfl⟩ := own_any hown9
                  have HO9 := Lib.hid hown9
                  have HX9 := Lib.hid (HX7.out.trans hx9)
                  have HO79 := Lib.hid (hx9.keptOwn HO7.out)
                  have hsz9 := HX9.out.size
                  have hb1 := hsz9
                  clear hown9 hx9 HO7
                  have hn1 : (S6.range S.l f c).length + (S6.range S.l c t).length ≤ maxLen := by unfold maxLen; omega
                  have hn2 : ((S6.range S.l f c).length + (S6.range S.l c t).length) * 40 ≤ 140737488355328 := by omega
                  obtain ⟨i0, z0, hi0, hz0, hz1, hz2, hz3⟩ := el_rpair.info
                  go_wp2_with (first
                    | ((with_reducible show wpList _ _ _ (⟨some 142, _, _, _, _, _⟩ :: _) _ _); refine wpl_append_row w9 rfl _ _ 34 rfl wr.heap.size 54 i0 z0 3 40 el_rpair.und hi0 hz0 hz1 hz2 hz3 (by decide) (.slice a7 (S6.range S.l f c).length c7) _ _ (by rfl) HO79.out (.slice a9 (S6.range S.l c t).length c9) _ _ _ (by rfl) HO9.out (prcs_one _ _ (svals_one _)) hn1 hn2 hsz9 ?_; intro v10 w10 hown10 hgrow10; have HX10 := Lib.hid (HX9.out.grown hgrow10 (fun k hk => (HO79.out.lt k hk).1)); have HO10 := Lib.hid hown10; clear hown10 hgrow10)
                    | fail)
                  have hown10 := HO10.out
                  rw [← prcs_append _ _ _ _ (svals_len _), ← svals_append, ← List.length_append, ← S6.range_cut HSR.out k1 k2 (.inr k4)] at hown10
                  refine (same6_any _ _ _ _ _ (HRP.out.ext (hX.out.trans HX10.out)) (RPs.of_own hown10)).mono ?_
                  rintro e w11 ⟨r, rfl, hr, hx11⟩
                  obtain rfl : r = true := hr.2 rfl
                  have HX11 := Lib.hid (HX10.out.trans hx11)
                  have hrg := stod_range (HL5.out.after (hX.out.trans HX11.out)) [] []
                  rw [S6.range_all] at hrg
                  have HRG := Lib.hid hrg
                  clear hown10 hx11 HO10 HO79 HO9 hrg hr
                  go_wp2_with fail
                  refine HRG.out.mono ?_
                  clear HRG
                  rintro e w12 ⟨v12, us12, rfl, hP12, hx12⟩
                  obtain ⟨a12, c12, rfl⟩ := own_any hP12.row
                  have HX12 := Lib.hid (HX11.out.trans hx12)
                  have hle := stod_len (HL5.out.after (hX.out.trans HX12.out))
                  have HLE := Lib.hid hle
                  clear hP12 hx12 hle
                  go_wp2_with fail
                  refine HLE.out.mono ?_
                  rintro e w13 ⟨rfl, rfl⟩
                  by_cases k5 : f < t
                  · rw [decide_eq_true k5] at bft
                    go_wp2
                    go_ret
                    exact ⟨by simp, (HX1.out.trans (HL5.out.toExt.trans (hX.out.trans HX12.out)))⟩
                  · rw [decide_eq_false k5] at bft
                    have hz : (((S6.range S.l f t).length : Int) == 0) = true := by rw [S6.range_none k3 k5]; rfl
                    go_wp2
                    go_ret
                    exact ⟨by simp, (HX1.out.trans (HL5.out.toExt.trans (hX.out.trans HX12.out)))⟩
theorem walk_storeRanges (sv : Value) (l : List Act6) (s1 s2 s3 : ByteArray) (w : World) (hs : Acts6In w sv l) :
    Calls Try.prog 4 #[sv, .string s1, .string s2, .string s3] w fun e w' => e = .returned (.bool true) ∧ Ext w w' := by
  have h := walk_ranges sv l s1.data.toList s2.data.toList s3.data.toList w hs
  simpa [strV] using h
end Go.Proofs.Ytnjfioikpajhlaa
