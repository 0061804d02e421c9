import Derived.Test.YtnjfioikpajhlaaStX
import Derived.Test.YtnjfioikpajhlaaRefE6
import Derived.Deep.DeepCutAuto
import Derived.Deep.CutBlock
/- StoreLasts, the walk. (Printed by tools/mkwlasts6.py.) -/
namespace Go.Proofs.Ytnjfioikpajhlaa
open Go.RowKit Go.Shelf

theorem Reads.block_lt6 {w : World} {v : Value} {cs : List Value} (h : Reads w v cs) : cs = [] ∨ ∀ k, v.ownBlock = some k → k < w.heap.size := by
  obtain ⟨a, cap, rfl, h1, h2, h3, h4, h5⟩ := h
  cases cs with
  | nil => exact .inl rfl
  | cons c cs =>
    right
    rcases h5 with h5 | ⟨b, off, rfl, hc⟩
    · cases h5
    · intro k hk
      have h6 := World.block_lt_of_cell? w _ (hc 0 c rfl)
      obtain rfl : b = k := by simpa [Value.ownBlock] using hk
      exact h6
namespace S6
/-- The keys and the number that must be there, by the code of the commit. -/
def fin (S : St) (ws : List Wr) (cc : Int) : List Pr × Nat := if cc ≠ 0 ∧ cc ≠ 3 then (S.l, S.num) else aft S.l S.num ws
theorem over_same (S : St) : over S S.L.d = S := by cases S; rename_i L l m c; cases L; rfl
end S6
set_option maxRecDepth 100000 in
set_option maxHeartbeats 12800000 in
theorem walk_storeLasts (n : Int) (sv : Value) (l : List Act6) (uv : Value) (ps : List S6.Pt) (cut : Int) (kkv : Value) (keep : List Bool) (again : Int) (w : World) (hwn : (Lit.int .i64 n).wf = true) (hs : Acts6In w sv l) (hp : PutsIn w uv ps) (hwc : (Lit.int .i64 cut).wf = true) (hk : Reads w kkv (keep.map Value.bool)) (hwa : (Lit.int .i64 again).wf = true) :
    Calls Try.prog 8 #[.int .i64 n, sv, uv, .int .i64 cut, kkv, .int .i64 again] w fun e w' => e = .returned (.bool true) ∧ Ext w w' := by
  obtain ⟨a, cap, rfl, hll⟩ := hs.shape
  obtain ⟨hpl, ua, uc, rfl, _⟩ := hp.shape
  obtain ⟨ka, kc, hkv⟩ := hk.shape
  rw [List.length_map] at hkv
  subst hkv
  have HS := Lib.hid hs
  have HP := Lib.hid hp
  have HK := Lib.hid hk
  have HKX := Lib.hid (Reads.block_lt6 hk)
  have hn := wf_i64 hwn
  have hc := wf_i64 hwc
  have ha := wf_i64 hwa
  clear hs hp hk hwn hwc hwa
  go_enter Try.func8, Try.ntmps8
  go_wp2_with fail
  refine (awake6 w).mono ?_
  rintro e w1 ⟨rfl, hx1⟩
  have HX1 := Lib.hid hx1
  clear hx1
  by_cases hbad : n < 4 ∨ 60 < n ∨ 30 < l.length
  · have hb := begun6_bad n _ l w1 (HS.out.ext HX1.out) hbad
    have HB := Lib.hid hb
    have HBAD := Lib.hid hbad
    clear hb HS HP hbad
    unfold zst at HB
    go_wp2_with fail
    refine HB.out.mono ?_
    clear HB
    rintro e w2 ⟨rfl, hx2⟩
    have HX2 := Lib.hid (HX1.out.trans hx2)
    clear hx2 HX1
    by_cases h4 : n < 4
    · clear HBAD
      go_wp2
      go_ret
      exact ⟨by simp [h4], HX2.out.alloc _⟩
    · by_cases h60 : 60 < n
      · clear HBAD
        go_wp2
        go_ret
        exact ⟨by simp [h60], HX2.out.alloc _⟩
      · have hbi : (30 : Int) < (l.length : Int) := by have := HBAD.out; omega
        clear HBAD
        go_wp2
        go_ret
        exact ⟨by simp [hbi], HX2.out.alloc _⟩
  · have h4 : 4 ≤ n := by omega
    have h60 : n ≤ 60 := by omega
    have hb := begun6 n _ l w1 (HS.out.ext HX1.out) (by omega) h4 h60
    have HB := Lib.hid hb
    clear hb HS hbad
    go_wp2_with fail
    refine HB.out.mono ?_
    clear HB
    rintro e w2 ⟨p, q, S, pv, rfl, hL, hI, hown⟩
    obtain ⟨pa, pc, rfl⟩ := own_any hown
    have hx3 := Ext.of_alloc w2 (.cells #[.int .i64 0, .slice none 0 0, .slice none 0 0, .bool false, .bool false, .int .i64 0, .int .u32 0, .slice none 0 0, .bool false, .slice pa S.l.length pc, .int .u64 (S.num : Int), .bool false] 37)
    have hb3 := heap_alloc_new w2 (.cells #[.int .i64 0, .slice none 0 0, .slice none 0 0, .bool false, .bool false, .int .i64 0, .int .u32 0, .slice none 0 0, .bool false, .slice pa S.l.length pc, .int .u64 (S.num : Int), .bool false] 37)
    have hs3 : (w2.alloc (.cells #[.int .i64 0, .slice none 0 0, .slice none 0 0, .bool false, .bool false, .int .i64 0, .int .u32 0, .slice none 0 0, .bool false, .slice pa S.l.length pc, .int .u64 (S.num : Int), .bool false] 37)).heap.size = w2.heap.size + 1 := World.size_alloc _ _
    have hsv : s6v gz (.slice pa S.l.length pc) S.num false = .agg #[.int .i64 0, .slice none 0 0, .slice none 0 0, .bool false, .bool false, .int .i64 0, .int .u32 0, .slice none 0 0, .bool false, .slice pa S.l.length pc, .int .u64 (S.num : Int), .bool false] := rfl
    obtain ⟨w3, hw3⟩ : ∃ w3, w3 = w2.alloc (.cells #[.int .i64 0, .slice none 0 0, .slice none 0 0, .bool false, .bool false, .int .i64 0, .int .u32 0, .slice none 0 0, .bool false, .slice pa S.l.length pc, .int .u64 (S.num : Int), .bool false] 37) := ⟨_, rfl⟩
    rw [← hw3] at hx3 hb3 hs3
    obtain ⟨hsr, hpk, hnm, hln⟩ := hL.facts
    have hk3 := BoxK.of_blk (v := .slice pa S.l.length pc) (num := S.num) hb3
    have hwr := writes6_any w3 gz (.slice pa S.l.length pc) S.num false S.l _ ps (RPs.of_own (hx3.keptOwn hown)) (by omega) (fun k hk => Nat.lt_of_lt_of_le (hown.lt k hk).2 hx3.size) (fun p hp => by have := (hpk p hp).ver; unfold S6.lastN at hnm; omega) (HP.out.ext ((HX1.out.trans hL.toExt).trans hx3)) (by simp [gz, Value.oneCell'])
    rw [hsv] at hwr
    have HWR := Lib.hid hwr
    have HL := Lib.hid hL
    have HI := Lib.hid hI
    have HO3 := Lib.hid (hx3.keptOwn hown)
    have HK3 := Lib.hid hk3
    have HOW := Lib.hid hown
    have HX3 := Lib.hid hx3
    have HSR := Lib.hid hsr
    have HW3 := Lib.hid hw3
    have HS3 := Lib.hid hs3
    have HPK := Lib.hid hpk
    have hsn : S.num ≤ 31 := hI.num
    have hsl : S.l.length ≤ 1984 := hI.len
    clear hL hI hown hx3 hb3 hs3 hw3 hsr hpk hnm hln hwr hsv hk3 HP
    unfold s6v gz
    go_upto_region 6 with fail
    rw [show w2.alloc (.cells #[.int .i64 0, .slice none 0 0, .slice none 0 0, .bool false, .bool false, .int .i64 0, .int .u32 0, .slice none 0 0, .bool false, .slice pa S.l.length pc, .int .u64 (S.num : Int), .bool false] 37) = w3 from HW3.out.symm]
    clear HW3
    obtain ⟨k0, k1, k2, k3, k4, k5, k6, k7, k8, k9, k10, k11⟩ := HK3.out
    go_wp2_with fail
    refine HWR.out.mono ?_
    clear HWR
    rintro e w4 ⟨xv, yv, us, rfl, hW4, hY4, hx4⟩
    have hwl := S6.wsOf_len S.l ps
    generalize hws : S6.wsOf S.l ps = ws at *
    have hwl2 : ws.length ≤ 70 := by omega
    obtain ⟨ya, yc, rfl⟩ := own_any hY4
    have HY4 := Lib.hid hY4
    have HW4 := Lib.hid hW4
    have HX4 := Lib.hid hx4
    clear hws hwl hW4 hY4 hx4 k0 k1 k2 k3 k4 k5 k6 k7 k8 k9 k10 k11
    obtain ⟨k0, k1, k2, k3, k4, k5, k6, k7, k8, k9, k10, k11⟩ := HK3.out.ext HX4.out
    have hx5 := Ext.of_alloc w4 (.cells #[.int .i64 0, .slice none 0 0, .slice none 0 0, .bool false, .bool false, .int .i64 0, .int .u32 0, .slice none 0 0, .bool false, .slice pa S.l.length pc, .int .u64 (S.num : Int), .bool false] 37)
    have hb5 := heap_alloc_new w4 (.cells #[.int .i64 0, .slice none 0 0, .slice none 0 0, .bool false, .bool false, .int .i64 0, .int .u32 0, .slice none 0 0, .bool false, .slice pa S.l.length pc, .int .u64 (S.num : Int), .bool false] 37)
    have hs5 : (w4.alloc (.cells #[.int .i64 0, .slice none 0 0, .slice none 0 0, .bool false, .bool false, .int .i64 0, .int .u32 0, .slice none 0 0, .bool false, .slice pa S.l.length pc, .int .u64 (S.num : Int), .bool false] 37)).heap.size = w4.heap.size + 1 := World.size_alloc _ _
    obtain ⟨w5, hw5⟩ : ∃ w5, w5 = w4.alloc (.cells #[.int .i64 0, .slice none 0 0, .slice none 0 0, .bool false, .bool false, .int .i64 0, .int .u32 0, .slice none 0 0, .bool false, .slice pa S.l.length pc, .int .u64 (S.num : Int), .bool false] 37) := ⟨_, rfl⟩
    rw [← hw5] at hx5 hb5 hs5
    have HW5 := Lib.hid hw5
    have HX5 := Lib.hid hx5
    have HB5 := Lib.hid hb5
    have HS5 := Lib.hid hs5
    clear hw5 hx5 hb5 hs5
    go_upto_region 8 with fail
    rw [show w4.alloc (.cells #[.int .i64 0, .slice none 0 0, .slice none 0 0, .bool false, .bool false, .int .i64 0, .int .u32 0, .slice none 0 0, .bool false, .slice pa S.l.length pc, .int .u64 (S.num : Int), .bool false] 37) = w5 from HW5.out.symm]
    clear HW5 k0 k1 k2 k3 k4 k5 k6 k7 k8 k9 k10 k11
    go_upto_if 58 with fail
    go_cut [] (fun wx => Hid (Ext w4 wx ∧ ∃ va vc, wx.heap[w4.heap.size]? = some (.cells #[.int .i64 0, .slice none 0 0, .slice none 0 0, .bool false, .bool false, .int .i64 0, .int .u32 0, .slice none 0 0, .bool false, .slice va (S6.aft S.l S.num ws).1.length vc, .int .u64 ((S6.aft S.l S.num ws).2 : Int), .bool false] 37 (0, 0)) ∧ RPs wx (.slice va (S6.aft S.l S.num ws).1.length vc) (S6.aft S.l S.num ws).1 ∧ ∀ k, (Value.slice va (S6.aft S.l S.num ws).1.length vc).ownBlock = some k → ((Value.slice pa S.l.length pc).ownBlock = some k ∨ w2.heap.size ≤ k) ∧ k < wx.heap.size))
    case first =>
      by_cases hw0 : ws = []
      · have hwi : (ws.length : Int) = 0 := by rw [hw0]; rfl
        have hwb : decide ((0 : Int) < (ws.length : Int)) = false := by rw [hwi]; rfl
        have hwb2 : ¬ 0 < ws.length := by omega
        have haf : S6.aft S.l S.num ws = (S.l, S.num) := by unfold S6.aft; rw [if_pos hw0]
        have HAF := Lib.hid haf
        clear haf hw0
        go_wp2_with fail
        go_meet
        rw [HAF.out]
        exact ⟨HX5.out, pa, pc, HB5.out, RPs.of_own ((HX4.out.trans HX5.out).keptOwn HO3.out), fun k hk => ⟨.inl hk, Nat.lt_of_lt_of_le (HO3.out.lt k hk).2 (HX4.out.trans HX5.out).size⟩⟩
      · have hwl0 : ws.length ≠ 0 := fun e => hw0 (List.eq_nil_of_length_eq_zero e)
        have hwi : (0 : Int) < (ws.length : Int) := by omega
        have haf : S6.aft S.l S.num ws = (S6.apl S.l (S.num + 1) ws, S.num + 1) := by unfold S6.aft; rw [if_neg hw0]
        have HAF := Lib.hid haf
        have hwr : IntKind.u64.wrap ((S.num : Int) + 1) = ((S.num + 1 : Nat) : Int) := by rw [IntKind.wrap_u64]; omega
        obtain ⟨N1, hN1⟩ : ∃ N1, N1 = S.num + 1 := ⟨_, rfl⟩
        have hap := refApply w5 gz (.slice pa S.l.length pc) S.num N1 false S.l _ ws (RPs.of_own ((HX4.out.trans HX5.out).keptOwn HO3.out)) (fun k hk => Nat.lt_of_lt_of_le (HO3.out.lt k hk).2 (HX4.out.trans HX5.out).size) (by omega) HSR.out (RWs.of_own (HX5.out.keptOwn HY4.out)) (by omega) (by simp [gz, Value.oneCell'])
        have hsv : s6v gz (.slice pa S.l.length pc) S.num false = .agg #[.int .i64 0, .slice none 0 0, .slice none 0 0, .bool false, .bool false, .int .i64 0, .int .u32 0, .slice none 0 0, .bool false, .slice pa S.l.length pc, .int .u64 (S.num : Int), .bool false] := rfl
        rw [hsv, Nat.max_eq_right (show S.num ≤ N1 by omega)] at hap
        rw [← hN1] at hwr HAF
        have HAP := Lib.hid hap
        obtain ⟨k0, k1, k2, k3, k4, k5, k6, k7, k8, k9, k10, k11⟩ := HK3.out.ext (HX4.out.trans HX5.out)
        clear hap hsv hw0 haf hN1
        go_wp2_with fail
        refine HAP.out.mono ?_
        clear HAP
        rintro e w6 ⟨pv2, rfl, hP6, hO6, hx6⟩
        obtain ⟨_, pb, pd, rfl, _⟩ := hP6.shape
        have hb6 := (Below.block (B := w5.heap.size) hx6 w4.heap.size (blk_lt HB5.out)).trans HB5.out
        have HTH := Lib.hid (there_blk (cs := [.int .i64 0, .slice none 0 0, .slice none 0 0, .bool false, .bool false, .int .i64 0, .int .u32 0, .slice none 0 0, .bool false, .slice pa S.l.length pc, .int .u64 (S.num : Int), .bool false]) hb6 0 12 (by simp))
        have HMS := Lib.hid (mod_setCells (fun z => z = w4.heap.size) w6 w4.heap.size 0 [.int .i64 0, .slice none 0 0, .slice none 0 0, .bool false, .bool false, .int .i64 0, .int .u32 0, .slice none 0 0, .bool false, .slice pb (S6.apl S.l N1 ws).length pd, .int .u64 (N1 : Int), .bool false] rfl)
        have HBS := Lib.hid (blk_setCells w4.heap.size 37 [.int .i64 0, .slice none 0 0, .slice none 0 0, .bool false, .bool false, .int .i64 0, .int .u32 0, .slice none 0 0, .bool false, .slice pb (S6.apl S.l N1 ws).length pd, .int .u64 (N1 : Int), .bool false] 0 w6 [.int .i64 0, .slice none 0 0, .slice none 0 0, .bool false, .bool false, .int .i64 0, .int .u32 0, .slice none 0 0, .bool false, .slice pa S.l.length pc, .int .u64 (S.num : Int), .bool false] hb6 (by simp))
        have HP6 := Lib.hid hP6
        have HO6 := Lib.hid hO6
        have HX6 := Lib.hid hx6
        clear hb6 hP6 hO6 hx6 k0 k1 k2 k3 k4 k5 k6 k7 k8 k9 k10 k11
        unfold s6v gz
        go_wp2_with (first
          | ((with_reducible show wpList _ _ _ (⟨none, Op.store _ _ _, _, _, _, _⟩ :: _) _ _); refine wpList_store_mid rfl 37 _ _ rfl w4.heap.size 0 #[.int .i64 0, .slice none 0 0, .slice none 0 0, .bool false, .bool false, .int .i64 0, .int .u32 0, .slice none 0 0, .bool false, .slice pb (S6.apl S.l N1 ws).length pd, .int .u64 (N1 : Int), .bool false] (by rfl) (by rfl) HTH.out (by kernel_rfl) (by simp [Value.oneCell']) ?_)
          | fail)
        go_meet
        rw [HAF.out]
        have hb7 : (w6.setCells w4.heap.size 0 [.int .i64 0, .slice none 0 0, .slice none 0 0, .bool false, .bool false, .int .i64 0, .int .u32 0, .slice none 0 0, .bool false, .slice pb (S6.apl S.l N1 ws).length pd, .int .u64 (N1 : Int), .bool false]).heap[w4.heap.size]? = some (.cells #[.int .i64 0, .slice none 0 0, .slice none 0 0, .bool false, .bool false, .int .i64 0, .int .u32 0, .slice none 0 0, .bool false, .slice pb (S6.apl S.l N1 ws).length pd, .int .u64 (N1 : Int), .bool false] 37 (0, 0)) := by rw [HBS.out]; simp
        have hgp : ∀ k, (Value.slice pb (S6.apl S.l N1 ws).length pd).ownBlock = some k → ¬ k = w4.heap.size := fun k hk e => by
          have h1 := HO6.out k hk
          rcases h1.1 with h2 | h2
          · have := (HO3.out.lt k h2).2
            have := HX4.out.size
            omega
          · have := HS5.out
            omega
        refine ⟨Mod.ext (HX5.out.trans HX6.out) HMS.out (fun z hz => by omega), pb, pd, hb7, HP6.out.mod HMS.out hgp, fun k hk => ⟨?_, Nat.lt_of_lt_of_le (HO6.out k hk).2 HMS.out.size⟩⟩
        rcases (HO6.out k hk).1 with h2 | h2
        · exact .inl h2
        · right
          have := HS5.out
          have := (HX3.out.trans HX4.out).size
          omega
    case rest =>
      rename World => w6
      obtain ⟨hx6, va, vc, hA6, hP6, hO6⟩ := hcut.out
      clear hcut
      have hx26 := (HX3.out.trans HX4.out).trans hx6
      have hL6 := HL.out.all hx26
      have hXrow : ∀ k, w2.heap.size ≤ k → k < w6.heap.size → (New (fun k => k < w1.heap.size ∨ (Value.slice pa S.l.length pc).ownBlock = some k) w2 w6) k := fun k h1 h2 => .inr ⟨h1, h2⟩
      have hXpa : ∀ k, (Value.slice pa S.l.length pc).ownBlock = some k → (New (fun k => k < w1.heap.size ∨ (Value.slice pa S.l.length pc).ownBlock = some k) w2 w6) k := fun k hk => .inl (.inr hk)
      have hXold : ∀ k, k < w1.heap.size → (New (fun k => k < w1.heap.size ∨ (Value.slice pa S.l.length pc).ownBlock = some k) w2 w6) k := fun k hk => .inl (.inl hk)
      have hs34 := (HX3.out.trans HX4.out).size
      have hs46 := hx6.size
      have hb19 : w4.heap.size < w6.heap.size := blk_lt hA6
      have hwrs := (HW4.out.ext hx6).wrs (X := (New (fun k => k < w1.heap.size ∨ (Value.slice pa S.l.length pc).ownBlock = some k) w2 w6)) (fun k h1 h2 => hXrow k (Nat.le_trans HX3.out.size h1) h2)
      have hM6 := (HK3.out.ext HX4.out).ext hx6
      have hR6 : RPs w6 (.slice pa S.l.length pc) S.l := RPs.of_own ((HX4.out.trans hx6).keptOwn HO3.out)
      have HXb19 := Lib.hid (hXrow w4.heap.size hs34 hb19)
      have HXbm := Lib.hid (hXrow w2.heap.size (Nat.le_refl _) (by have := HS3.out; have := HX4.out.size; omega))
      have HXA := Lib.hid (fun k (hk : (Value.slice va (S6.aft S.l S.num ws).1.length vc).ownBlock = some k) => (hO6 k hk).1.elim (fun h => hXpa k h) (fun h => hXrow k h (hO6 k hk).2))
      have HXpa := Lib.hid hXpa
      have HXold := Lib.hid hXold
      have HBNE := Lib.hid (show w2.heap.size ≠ w4.heap.size by have := HS3.out; have := HX4.out.size; omega)
      have HPNE := Lib.hid (fun k (hk : (Value.slice pa S.l.length pc).ownBlock = some k) => (show k ≠ w4.heap.size by have := HOW.out.lt k hk; have := HS3.out; have := HX4.out.size; omega))
      generalize hXQ : (New (fun k => k < w1.heap.size ∨ (Value.slice pa S.l.length pc).ownBlock = some k) w2 w6) = X at *
      have HL6 := Lib.hid hL6
      have HWS6 := Lib.hid hwrs
      have HA6 := Lib.hid hA6
      have HP6 := Lib.hid hP6
      have HM6 := Lib.hid hM6
      have HR6 := Lib.hid hR6
      have HB19 := Lib.hid (show w1.heap.size ≤ w4.heap.size from Nat.le_trans HL.out.toExt.size hs34)
      clear hXQ hXrow hXpa hXold hx26 hL6 hwrs hA6 hP6 hO6 hM6 hR6 hx6 HL HK3 HO3 HOW HX3 HX4 HX5 HB5 HS3 HS5 HW4 HY4 HSR HPK hs34 hs46 hb19
      generalize w4.heap.size = b19 at *
      generalize w2.heap.size = bm at *
      go_upto_region 10 with fail
      go_cut [72] (fun s72 wx => s72 = .bool false ∧ Hid (∃ d', W5.Live d' S.L.gen S.L.recs ∧ Stod w1 wx X p q (S6.over S d') ∧ Keeps X w6 wx))
      case first =>
        by_cases h0 : 0 ≤ cut
        · have hfe : D.fuseE S.L.d cut = 0 := by unfold D.fuseE; rw [if_neg (by omega), HI.out.live.down]; rfl
          have hfu := stod_fuse HL6.out cut hc.2
          rw [hfe] at hfu
          have HFU := Lib.hid hfu
          clear hfu hfe
          go_wp2_with fail
          refine HFU.out.mono ?_
          clear HFU
          rintro e w7 ⟨rfl, hL7, hK7⟩
          have HL7 := Lib.hid hL7
          have HK7 := Lib.hid hK7
          clear hL7 hK7
          go_wp2_with fail
          go_meet
          exact ⟨by simp, ⟨_, W5.live_fuse HI.out.live cut, HL7.out, HK7.out⟩⟩
        · have h0b : decide ((0 : Int) ≤ cut) = false := decide_eq_false h0
          go_wp2_with fail
          go_meet
          exact ⟨by simp, ⟨S.L.d, HI.out.live, by rw [S6.over_same]; exact HL6.out, Keeps.refl _ _⟩⟩
      case rest =>
        rename World => w7
        obtain ⟨rfl, hcut⟩ := hcut
        obtain ⟨d', hlv, hL7, hK7⟩ := hcut.out
        clear hcut
        have hws7 := HWS6.out.keeps hK7
        have hcm := commit_any hL7 xv ws hws7 (show d'.wait.length ≤ 1073600000 by rw [hlv.wait]; simp)
        obtain ⟨⟨T, nn, cc⟩, hR⟩ : ∃ R, R = S6.commit (S6.over S d') ws := ⟨_, rfl⟩
        have hle := S6.commit_leaves HI.out hlv hL7.held.okd (by omega) ws hR
        rw [← hR] at hcm
        have HCM := Lib.hid hcm
        have HLE := Lib.hid hle
        have HK7 := Lib.hid hK7
        clear hlv hL7 hws7 hcm hR hle HL6 HWS6 hK7
        go_wp2_with fail
        refine HCM.out.mono ?_
        clear HCM
        rintro e w8 ⟨rfl, hL8, hK8⟩
        replace hL8 : Stod w1 w8 X p q T := hL8
        have HL8 := Lib.hid hL8
        have HK8 := Lib.hid (HK7.out.trans hK8)
        clear hL8 hK8 HK7
        go_upto_region 13 with fail
        go_cut [84] (fun s84 wx => s84 = .bool (decide (cc ≠ 0 ∧ cc ≠ 3)) ∧ wx = w8)
        case first =>
          by_cases h0 : cc = 0
          · subst h0
            go_wp2_with fail
            go_meet
            exact ⟨by simp, rfl⟩
          · have h0b : (cc == 0) = false := by rw [beq_eq_false_iff_ne]; exact h0
            by_cases h3 : cc = 3
            · subst h3
              go_wp2_with fail
              go_meet
              exact ⟨by simp, rfl⟩
            · have h3b : (cc == 3) = false := by rw [beq_eq_false_iff_ne]; exact h3
              go_wp2_with fail
              go_meet
              exact ⟨by simp [h0, h3], rfl⟩
        case rest =>
          obtain ⟨rfl, rfl⟩ := hcut
          rename World => w8
          go_upto_if 84 with fail
          go_cut [] (fun wx => Hid (Mod (fun k => k = b19) w8 wx ∧ ∃ vf vd, BoxK wx b19 (.slice vf (S6.fin S ws cc).1.length vd) (S6.fin S ws cc).2 ∧ RPs wx (.slice vf (S6.fin S ws cc).1.length vd) (S6.fin S ws cc).1 ∧ ∀ k, (Value.slice vf (S6.fin S ws cc).1.length vd).ownBlock = some k → X k))
          case first =>
            have hA8 := blk_mod HA6.out HK8.out (fun h => h HXb19.out)
            by_cases hcc : cc ≠ 0 ∧ cc ≠ 3
            · have hfin : S6.fin S ws cc = (S.l, S.num) := by unfold S6.fin; rw [if_pos hcc]
              have HFN := Lib.hid hfin
              rw [decide_eq_true hcc]
              have hb9 : (w8.setCells b19 0 [.int .i64 0, .slice none 0 0, .slice none 0 0, .bool false, .bool false, .int .i64 0, .int .u32 0, .slice none 0 0, .bool false, .slice pa S.l.length pc, .int .u64 (S.num : Int), .bool false]).heap[b19]? = some (.cells #[.int .i64 0, .slice none 0 0, .slice none 0 0, .bool false, .bool false, .int .i64 0, .int .u32 0, .slice none 0 0, .bool false, .slice pa S.l.length pc, .int .u64 (S.num : Int), .bool false] 37 (0, 0)) := by rw [blk_setCells b19 37 [.int .i64 0, .slice none 0 0, .slice none 0 0, .bool false, .bool false, .int .i64 0, .int .u32 0, .slice none 0 0, .bool false, .slice pa S.l.length pc, .int .u64 (S.num : Int), .bool false] 0 w8 [.int .i64 0, .slice none 0 0, .slice none 0 0, .bool false, .bool false, .int .i64 0, .int .u32 0, .slice none 0 0, .bool false, .slice va (S6.aft S.l S.num ws).1.length vc, .int .u64 ((S6.aft S.l S.num ws).2 : Int), .bool false] hA8 (by simp)]; simp
              have hms := mod_setCells (fun z => z = b19) w8 b19 0 [.int .i64 0, .slice none 0 0, .slice none 0 0, .bool false, .bool false, .int .i64 0, .int .u32 0, .slice none 0 0, .bool false, .slice pa S.l.length pc, .int .u64 (S.num : Int), .bool false] rfl
              have HTH := Lib.hid (there_blk (cs := [.int .i64 0, .slice none 0 0, .slice none 0 0, .bool false, .bool false, .int .i64 0, .int .u32 0, .slice none 0 0, .bool false, .slice va (S6.aft S.l S.num ws).1.length vc, .int .u64 ((S6.aft S.l S.num ws).2 : Int), .bool false]) hA8 0 12 (by simp))
              obtain ⟨k0, k1, k2, k3, k4, k5, k6, k7, k8, k9, k10, k11⟩ := HM6.out.keeps HK8.out HXbm.out
              have hR9 := ((show RPs w8 _ _ from ReadsN.keeps HR6.out HK8.out HXpa.out)).mod hms (fun k hk e => HPNE.out k hk e)
              have HB9 := Lib.hid hb9
              have HMS := Lib.hid hms
              have HR9 := Lib.hid hR9
              clear hb9 hms hR9 hA8 hcc hfin
              go_wp2_with (first
                | ((with_reducible show wpList _ _ _ (⟨none, Op.store _ _ _, _, _, _, _⟩ :: _) _ _); refine wpList_store_mid rfl 37 _ _ rfl b19 0 #[.int .i64 0, .slice none 0 0, .slice none 0 0, .bool false, .bool false, .int .i64 0, .int .u32 0, .slice none 0 0, .bool false, .slice pa S.l.length pc, .int .u64 (S.num : Int), .bool false] (by rfl) (by rfl) HTH.out (by kernel_rfl) (by simp [Value.oneCell']) ?_)
                | fail)
              go_meet
              rw [HFN.out]
              exact ⟨HMS.out, pa, pc, BoxK.of_blk (v := .slice pa S.l.length pc) (num := S.num) HB9.out, HR9.out, HXpa.out⟩
            · have hfin : S6.fin S ws cc = S6.aft S.l S.num ws := by unfold S6.fin; rw [if_neg hcc]
              have HFN := Lib.hid hfin
              rw [decide_eq_false hcc]
              have HB9 := Lib.hid hA8
              clear hfin hcc hA8
              go_wp2_with fail
              go_meet
              rw [HFN.out]
              exact ⟨Mod.refl _ _, va, vc, BoxK.of_blk HB9.out, ReadsN.keeps HP6.out HK8.out HXA.out, HXA.out⟩
          case rest =>
            rename World => w9
            obtain ⟨hm9, vf, vd, hA9, hP9, hX9⟩ := hcut.out
            clear hcut
            have hL9 := HL8.out.modX hm9 (fun k e => by rw [e]; exact HXb19.out) (fun k e => by rw [e]; exact HB19.out)
            have hM9 : BoxK w9 bm (.slice pa S.l.length pc) S.num := (HM6.out.keeps HK8.out HXbm.out).keeps (X := fun k => ¬ k = b19) (hm9.mono (fun k hk h => h hk)) HBNE.out
            have hR9 : RPs w9 (.slice pa S.l.length pc) S.l := (show RPs w8 _ _ from ReadsN.keeps HR6.out HK8.out HXpa.out).mod hm9 (fun k hk e => HPNE.out k hk e)
            have HA9 := Lib.hid hA9
            have HP9 := Lib.hid hP9
            have HX9 := Lib.hid hX9
            have HM9 := Lib.hid hM9
            have HR9 := Lib.hid hR9
            have HH9 := Lib.hid hL9.held
            have HKX9 := Lib.hid (HKX.out.imp (fun h => by simpa using h) (fun h k hk => HXold.out k (Nat.lt_of_lt_of_le (h k hk) HX1.out.size)))
            clear hm9 hA9 hP9 hX9 hL9 hM9 hR9 HA6 HP6 HM6 HR6 HL8 HK8 HXA HPNE HBNE HB19 HKX
            have hcu := held_cut HH9.out
            have HCU := Lib.hid hcu
            clear hcu HH9
            go_wp2_with fail
            refine HCU.out.mono ?_
            clear HCU
            rintro e w10 ⟨rfl, hst10⟩
            have hrs := held_restart_X hst10.1 (.slice ka keep.length kc) keep (HK.out.ext (HX1.out.trans hst10.1.ext)) HKX9.out
            rw [W5.restart_cut] at hrs
            have HRS := Lib.hid hrs
            have HK10 := Lib.hid hst10.2
            clear hrs hst10
            go_wp2_with fail
            refine HRS.out.mono ?_
            clear HRS
            rintro e w11 ⟨rfl, hst11⟩
            obtain ⟨ls, hP, hrest, harm⟩ := HLE.out.rest keep hst11.1.okd
            have HH11 := Lib.hid hst11.1
            have HR11 := Lib.hid hrest
            have HM11 := Lib.hid harm
            have HK11 := Lib.hid (HK10.out.trans hst11.2)
            have HPL := Lib.hid hP
            clear hst11 hrest harm hP HK10 HLE
            generalize D.restart T.L.d keep = R0 at *
            go_upto_block 0 with fail
            go_cut [] (fun wx => Hid (∃ d, Held w1 wx X p d ∧ W5.Rest d ls 38 ∧ d.armed = false ∧ Keeps X w9 wx))
            case first =>
              go_wp2_with fail
              go_loopw [22] (fun iv wr => ∃ i : Nat, ∃ d : D.Dsk, i ≤ 3 ∧ iv = .int .i64 (i : Int) ∧ Hid (Held w1 wr X p d) ∧ Hid (W5.Rest d ls (32 + 2 * i)) ∧ Hid (d.armed = false) ∧ Hid (Keeps X w9 wr)) (fun iv _ => 3 - (intOf iv).toNat)
              case atStart => exact ⟨0, R0, by omega, rfl, HH11.out, HR11.out, HM11.out, HK11.out⟩
              case round =>
                clear HH11 HR11 HM11 HK11
                obtain ⟨i, d, hi, rfl, hH, hR, hM, hKp⟩ := hrel
                by_cases hc1 : (i : Int) < again
                · by_cases hc2 : i < 3
                  · have hc2i : (i : Int) < 3 := by omega
                    have hwm : IntKind.i64.wrap (min again 50 + (i : Int)) = min again 50 + (i : Int) := by rw [IntKind.wrap_i64]; omega
                    have hfu := fuse_rest hH.out hR.out (a := min again 50 + (i : Int)) (by omega)
                    have HFU := Lib.hid hfu
                    clear hfu
                    go_wp2_with fail
                    refine HFU.out.mono ?_
                    clear HFU
                    rintro e w18 ⟨d18, z18, rfl, hst18, hr18⟩
                    have hop := open6_rest hst18.1 hr18 (by omega)
                    have HOP := Lib.hid hop
                    have HK18 := Lib.hid (hKp.out.trans hst18.2)
                    clear hop hst18 hr18 hwm
                    go_wp2_with fail
                    refine HOP.out.mono ?_
                    clear HOP
                    rintro e w19 ⟨d19, v19, z19, rfl, hst19, hle19⟩
                    have hcu := held_cut hst19.1
                    have HCU := Lib.hid hcu
                    have HK19 := Lib.hid (HK18.out.trans hst19.2)
                    have HLE := Lib.hid hle19
                    clear hcu hst19 hle19 HK18
                    go_wp2_with fail
                    refine HCU.out.mono ?_
                    clear HCU
                    rintro e w20 ⟨rfl, hst20⟩
                    have hrs := held_restart_X hst20.1 (.slice ka keep.length kc) keep (HK.out.ext (HX1.out.trans hst20.1.ext)) HKX9.out
                    rw [W5.restart_cut] at hrs
                    have HRS := Lib.hid hrs
                    have HK20 := Lib.hid (HK19.out.trans hst20.2)
                    clear hrs hst20
                    go_wp2_with fail
                    refine HRS.out.mono ?_
                    clear HRS
                    rintro e w21 ⟨rfl, hst21⟩
                    obtain ⟨l2, rfl, hrest, harm⟩ := HLE.out.rest keep hst21.1.okd
                    have HH21 := Lib.hid hst21.1
                    have HR21 := Lib.hid (show W5.Rest (D.restart d19 keep) l2 (32 + 2 * (i + 1)) from hrest)
                    have HM21 := Lib.hid harm
                    have HK21 := Lib.hid (HK20.out.trans hst21.2)
                    clear hst21 hrest harm
                    go_wp2
                    exact ⟨⟨i + 1, _, by omega, by go_num, HH21, HR21, HM21, HK21⟩, by simp [intOf]; omega⟩
                  · have hc2i : ¬ (i : Int) < 3 := by omega
                    have hc2b : decide ((i : Int) < 3) = false := decide_eq_false hc2i
                    go_wp2_with fail
                    go_meet
                    exact ⟨d, hH.out, ⟨hR.out.n4, hR.out.wait, hR.out.down, hR.out.lst, hR.out.tb.le (by omega)⟩, hM.out, hKp.out⟩
                · have hc1b : decide ((i : Int) < again) = false := decide_eq_false hc1
                  go_wp2_with fail
                  go_meet
                  exact ⟨d, hH.out, ⟨hR.out.n4, hR.out.wait, hR.out.down, hR.out.lst, hR.out.tb.le (by omega)⟩, hM.out, hKp.out⟩
            case rest =>
              rename World => w12
              obtain ⟨d, hH, hR, hM, hK12⟩ := hcut.out
              clear hcut HH11 HR11 HM11 HK11
              have hpl : S6.play ls = some (S6.fin S ws cc) ∨ (cc = 3 ∧ S6.play ls = some (S.l, S.num)) := HPL.out
              clear HPL
              generalize S6.fin S ws cc = F at *
              obtain ⟨lF, nF⟩ := F
              replace HA9 : Hid (BoxK w9 b19 (.slice vf lF.length vd) nF) := HA9
              replace HP9 : Hid (RPs w9 (.slice vf lF.length vd) lF) := HP9
              replace HX9 : Hid (∀ k, (Value.slice vf lF.length vd).ownBlock = some k → X k) := HX9
              rcases hpl with hpl | ⟨rfl, hpl⟩
              · have hop := open6_last hH hR hM (by decide) hpl
                clear hpl
                have HOP := Lib.hid hop
                clear hop hH hR hM
                go_wp2_with fail
                refine HOP.out.mono ?_
                clear HOP
                rintro e w13 ⟨q2, Z, rfl, hZ, hZl, hZn, hK13⟩
                have hkn := known_any hZ
                rw [hZl, hZn] at hkn
                have HKN := Lib.hid hkn
                have HXK := Lib.hid (HX1.out.trans hZ.toExt)
                have HK13 := Lib.hid (hK12.trans hK13)
                clear hkn hZ hZl hZn hK13 hK12
                go_wp2_with fail
                refine HKN.out.mono ?_
                clear HKN
                rintro e w14 ⟨zv, rfl, hown14, hx14⟩
                obtain ⟨za, zc, rfl⟩ := own_any hown14
                have hK14 := HK13.out.trans (Keeps.of_ext hx14)
                have hA14 := HA9.out.keeps hK14 HXb19.out
                have hP14 : RPs w14 (.slice vf lF.length vd) lF := ReadsN.keeps HP9.out hK14 HX9.out
                have hM14 := HM9.out.keeps hK14 HXbm.out
                have hR14 : RPs w14 (.slice pa S.l.length pc) S.l := ReadsN.keeps HR9.out hK14 HXpa.out
                have hx15 := Ext.of_alloc w14 (.cells #[.int .i64 0, .slice none 0 0, .slice none 0 0, .bool false, .bool false, .int .i64 0, .int .u32 0, .slice none 0 0, .bool false, .slice za lF.length zc, .int .u64 (nF : Int), .bool false] 37)
                have hb15 := heap_alloc_new w14 (.cells #[.int .i64 0, .slice none 0 0, .slice none 0 0, .bool false, .bool false, .int .i64 0, .int .u32 0, .slice none 0 0, .bool false, .slice za lF.length zc, .int .u64 (nF : Int), .bool false] 37)
                obtain ⟨w15, hw15⟩ : ∃ w15, w15 = w14.alloc (.cells #[.int .i64 0, .slice none 0 0, .slice none 0 0, .bool false, .bool false, .int .i64 0, .int .u32 0, .slice none 0 0, .bool false, .slice za lF.length zc, .int .u64 (nF : Int), .bool false] 37) := ⟨_, rfl⟩
                rw [← hw15] at hx15 hb15
                have HSA := Lib.hid (fun W (hW : Ext w15 W) => same6_any W _ _ _ _ ((RPs.of_own hown14).ext (hx15.trans hW)) (hP14.ext (hx15.trans hW)))
                have HSB := Lib.hid (fun W (hW : Ext w15 W) => same6_any W _ _ _ _ ((RPs.of_own hown14).ext (hx15.trans hW)) (hR14.ext (hx15.trans hW)))
                have HXF := Lib.hid ((HXK.out.trans hx14).trans hx15)
                have HW15 := Lib.hid hw15
                obtain ⟨-, -, -, -, -, -, -, -, -, a9, a10, -⟩ := hA14.ext hx15
                obtain ⟨-, -, -, -, -, -, -, -, -, m9, m10, -⟩ := hM14.ext hx15
                obtain ⟨-, -, -, -, -, -, -, -, -, z9, z10, -⟩ := BoxK.of_blk (v := .slice za lF.length zc) (num := nF) hb15
                clear hw15 hb15 hx15 hA14 hP14 hM14 hR14 hK14 hown14 hx14 HXK HK13 HA9 HP9 HM9 HR9 HX9
                unfold s6v gz
                go_upto_region 28 with fail
                rw [show w14.alloc (.cells #[.int .i64 0, .slice none 0 0, .slice none 0 0, .bool false, .bool false, .int .i64 0, .int .u32 0, .slice none 0 0, .bool false, .slice za lF.length zc, .int .u64 (nF : Int), .bool false] 37) = w15 from HW15.out.symm]
                clear HW15
                generalize w14.heap.size = bn at *
                go_wp2_with fail
                refine (HSA.out _ (Ext.refl _)).mono ?_
                clear HSA
                rintro e w16 ⟨r, rfl, hr, hx16⟩
                obtain rfl : r = true := by simpa using hr
                have HX16 := Lib.hid (HXF.out.trans hx16)
                clear hr hx16
                go_wp2_with fail
                go_ret
                exact ⟨rfl, HX16.out⟩
              · have hop := open6_last hH hR hM (by decide) hpl
                clear hpl
                have HOP := Lib.hid hop
                clear hop hH hR hM
                go_wp2_with fail
                refine HOP.out.mono ?_
                clear HOP
                rintro e w13 ⟨q2, Z, rfl, hZ, hZl, hZn, hK13⟩
                have hkn := known_any hZ
                rw [hZl, hZn] at hkn
                have HKN := Lib.hid hkn
                have HXK := Lib.hid (HX1.out.trans hZ.toExt)
                have HK13 := Lib.hid (hK12.trans hK13)
                clear hkn hZ hZl hZn hK13 hK12
                go_wp2_with fail
                refine HKN.out.mono ?_
                clear HKN
                rintro e w14 ⟨zv, rfl, hown14, hx14⟩
                obtain ⟨za, zc, rfl⟩ := own_any hown14
                have hK14 := HK13.out.trans (Keeps.of_ext hx14)
                have hA14 := HA9.out.keeps hK14 HXb19.out
                have hP14 : RPs w14 (.slice vf lF.length vd) lF := ReadsN.keeps HP9.out hK14 HX9.out
                have hM14 := HM9.out.keeps hK14 HXbm.out
                have hR14 : RPs w14 (.slice pa S.l.length pc) S.l := ReadsN.keeps HR9.out hK14 HXpa.out
                have hx15 := Ext.of_alloc w14 (.cells #[.int .i64 0, .slice none 0 0, .slice none 0 0, .bool false, .bool false, .int .i64 0, .int .u32 0, .slice none 0 0, .bool false, .slice za S.l.length zc, .int .u64 (S.num : Int), .bool false] 37)
                have hb15 := heap_alloc_new w14 (.cells #[.int .i64 0, .slice none 0 0, .slice none 0 0, .bool false, .bool false, .int .i64 0, .int .u32 0, .slice none 0 0, .bool false, .slice za S.l.length zc, .int .u64 (S.num : Int), .bool false] 37)
                obtain ⟨w15, hw15⟩ : ∃ w15, w15 = w14.alloc (.cells #[.int .i64 0, .slice none 0 0, .slice none 0 0, .bool false, .bool false, .int .i64 0, .int .u32 0, .slice none 0 0, .bool false, .slice za S.l.length zc, .int .u64 (S.num : Int), .bool false] 37) := ⟨_, rfl⟩
                rw [← hw15] at hx15 hb15
                have HSA := Lib.hid (fun W (hW : Ext w15 W) => same6_any W _ _ _ _ ((RPs.of_own hown14).ext (hx15.trans hW)) (hP14.ext (hx15.trans hW)))
                have HSB := Lib.hid (fun W (hW : Ext w15 W) => same6_any W _ _ _ _ ((RPs.of_own hown14).ext (hx15.trans hW)) (hR14.ext (hx15.trans hW)))
                have HXF := Lib.hid ((HXK.out.trans hx14).trans hx15)
                have HW15 := Lib.hid hw15
                obtain ⟨-, -, -, -, -, -, -, -, -, a9, a10, -⟩ := hA14.ext hx15
                obtain ⟨-, -, -, -, -, -, -, -, -, m9, m10, -⟩ := hM14.ext hx15
                obtain ⟨-, -, -, -, -, -, -, -, -, z9, z10, -⟩ := BoxK.of_blk (v := .slice za S.l.length zc) (num := S.num) hb15
                clear hw15 hb15 hx15 hA14 hP14 hM14 hR14 hK14 hown14 hx14 HXK HK13 HA9 HP9 HM9 HR9 HX9
                unfold s6v gz
                go_upto_region 28 with fail
                rw [show w14.alloc (.cells #[.int .i64 0, .slice none 0 0, .slice none 0 0, .bool false, .bool false, .int .i64 0, .int .u32 0, .slice none 0 0, .bool false, .slice za S.l.length zc, .int .u64 (S.num : Int), .bool false] 37) = w15 from HW15.out.symm]
                clear HW15
                generalize w14.heap.size = bn at *
                by_cases hnn : S.num = nF
                · subst hnn
                  go_wp2_with fail
                  refine (HSA.out _ (Ext.refl _)).mono ?_
                  clear HSA
                  rintro e w16 ⟨r, rfl, hr, hx16⟩
                  have HX16 := Lib.hid hx16
                  have s9 := hx16.cell z9
                  have s10 := hx16.cell z10
                  have t9 := hx16.cell m9
                  have t10 := hx16.cell m10
                  clear hr hx16
                  cases r with
                  | true =>
                    go_wp2_with fail
                    go_ret
                    exact ⟨rfl, HXF.out.trans HX16.out⟩
                  | false =>
                    go_wp2_with fail
                    refine (HSB.out _ HX16.out).mono ?_
                    clear HSB
                    rintro e w17 ⟨r, rfl, hr, hx17⟩
                    obtain rfl : r = true := by simpa using hr
                    have HX17 := Lib.hid (HX16.out.trans hx17)
                    clear hr hx17
                    go_wp2_with fail
                    go_ret
                    exact ⟨rfl, HXF.out.trans HX17.out⟩
                · have hnb : ((S.num : Int) == (nF : Int)) = false := by rw [beq_eq_false_iff_ne]; omega
                  go_wp2_with fail
                  refine (HSB.out _ (Ext.refl _)).mono ?_
                  clear HSB
                  rintro e w17 ⟨r, rfl, hr, hx17⟩
                  obtain rfl : r = true := by simpa using hr
                  have HX17 := Lib.hid (HXF.out.trans hx17)
                  clear hr hx17
                  go_wp2_with fail
                  go_ret
                  exact ⟨rfl, HX17.out⟩
end Go.Proofs.Ytnjfioikpajhlaa
