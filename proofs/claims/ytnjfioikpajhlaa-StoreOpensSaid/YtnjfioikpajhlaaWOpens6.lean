import Derived.Test.YtnjfioikpajhlaaStX
import Derived.Test.YtnjfioikpajhlaaRefG6
import Derived.Test.YtnjfioikpajhlaaTells6
import Derived.Test.YtnjfioikpajhlaaConvS6
import Derived.Test.YtnjfioikpajhlaaRaws6
import Derived.Deep.DeepCutAuto
/- StoreOpens, the walk. (Printed by tools/mkwopens6.py.) -/
namespace Go.Proofs.Ytnjfioikpajhlaa
open Go.RowKit Go.Shelf

theorem Bs.short {w : World} {g n cap : Nat} {l : List UInt8} (h : Bs w (.slice (some ⟨g, 0, none⟩) n cap) l) (k : Nat) (hk : k ≤ n) : Bs w (.slice (some ⟨g, 0, none⟩) k cap) (l.take k) := by
  obtain ⟨a, cap', hv, h1, h2, h3, h4, h5⟩ := h
  obtain ⟨rfl, hn, rfl⟩ := Value.slice.inj hv
  rw [List.length_map] at hn h1
  have hlk : (l.take k).length = k := by rw [List.length_take]; omega
  refine ⟨_, cap, by rw [List.length_map, hlk], by rw [List.length_map, hlk]; omega, h2, (fun e => by cases e), (fun u hu => by obtain ⟨y, _, rfl⟩ := List.mem_map.1 hu; rfl), ?_⟩
  rcases h5 with h5 | ⟨b, off, hb, hc⟩
  · left
    rw [List.map_eq_nil_iff.1 h5]; simp
  · right
    refine ⟨b, off, hb, fun i u hi => hc i u ?_⟩
    rw [List.map_take, List.getElem?_take] at hi
    split at hi
    · exact hi
    · cases hi
theorem live_rest {d : D.Dsk} {g : Nat} {recs : List (List UInt8)} (h : W5.Live d g recs) (hok : D.Ok d) : W5.Rest d recs g := ⟨h.n4, h.wait, h.down, h.list hok, h.tb⟩
section
variable {w0 w w' : World} {X : Nat → Prop} {p q : Nat} {d : D.Dsk}
theorem open6_bad {l : List (List UInt8)} {B : Nat} (h : Held w0 w X p d) (hr : W5.Rest d l B) (ha : d.armed = false) (hB : B + 2 < 4294967295) (hp : S6.play l = none) :
    Calls Try.prog 30 #[.pointer (some ⟨p, 0, none⟩)] w fun e w' => e = .returned (.tuple #[.pointer none, .int .i64 4]) ∧ Ext w0 w' := by
  obtain ⟨_, _, o3, o4⟩ := hr.open_ h.okd hB
  have h0 := o3 ha
  have hS : S6.openS d = ((W5.open_ d).1, none, 4) := by
    unfold S6.openS
    rw [if_neg (by rw [h0]; decide), o4 h0, hp]
  refine (open6_any h (by rw [hr.wait]; exact Nat.zero_le _)).mono ?_
  rintro e w' (⟨S, q, hS2, _⟩ | ⟨_, rfl, hst⟩)
  · rw [hS] at hS2; cases hS2
  · rw [hS]
    exact ⟨rfl, hst.1.ext⟩
end
theorem S6.play_none {recs : List (List UInt8)} (h : S6.play recs = none) (b : List UInt8) : S6.play (recs ++ [b]) = none := by
  unfold S6.play at h ⊢
  rw [S6.playF_append, h]
theorem S6.play_none2 {recs : List (List UInt8)} {l : List S6.Pr} {m : Nat} (h : S6.play recs = some (l, m)) {b : List UInt8} (hb : S6.readB b = none) : S6.play (recs ++ [b]) = none := by
  unfold S6.play at h ⊢
  rw [S6.playF_append, h]
  simp [S6.playF, hb]
set_option maxRecDepth 100000 in
set_option maxHeartbeats 12800000 in
theorem walk_storeOpens (sv : Value) (l : List Raw6) (w : World) (hs : RawsIn w sv l) :
    Calls Try.prog 6 #[sv] w fun e w' => e = .returned (.bool true) ∧ Ext w w' := by
  obtain ⟨a, cap, rfl, hll⟩ := hs.shape
  have HS := Lib.hid hs
  clear hs
  go_enter Try.func6, Try.ntmps6
  go_wp2_with fail
  refine (awake6 w).mono ?_
  rintro e w1 ⟨rfl, hx1⟩
  have HX1 := Lib.hid hx1
  clear hx1
  by_cases hbad : 30 < l.length
  · have hbi : (30 : Int) < (l.length : Int) := by omega
    clear HS hbad
    go_wp2_with fail
    go_ret
    exact ⟨rfl, HX1.out⟩
  · have hbi : ¬ (30 : Int) < (l.length : Int) := by omega
    have hli : (l.length : Int) ≤ 30 := by omega
    clear hbad
    go_wp2_with fail
    refine (held_new 60 w1 (by omega) (by omega)).mono ?_
    rintro e w2 ⟨rfl, H2⟩
    have hp1 : w1.heap.size ≤ w1.heap.size + 1 := by omega
    generalize w1.heap.size + 1 = p at *
    obtain ⟨o1, Y, o2, o3, o4, o5⟩ := W5.fresh_open (n := 60) (by decide) H2.okd
    have hop := open_any H2 (Nat.zero_le _)
    have HOP := Lib.hid hop
    have HO1 := Lib.hid o1
    have HO2 := Lib.hid o2
    have HLV := Lib.hid o3
    have HYN := Lib.hid o4
    have HYA := Lib.hid o5
    clear hop o1 o2 o3 o4 o5 H2 hp1
    go_wp2_with fail
    unfold Opened at HOP
    refine HOP.out.mono ?_
    clear HOP
    rintro e w3 (⟨_, q, rfl, hq, hL, hK⟩ | ⟨h9, _⟩)
    · rw [HO2.out] at hL
      have hx4 := Ext.of_alloc w3 (.cells #[.int .i64 0, .slice none 0 0, .slice none 0 0, .bool false, .bool false, .int .i64 0, .int .u32 0, .slice none 0 0, .bool false, .slice none 0 0, .int .u64 0, .bool false] 37)
      have hb4 := heap_alloc_new w3 (.cells #[.int .i64 0, .slice none 0 0, .slice none 0 0, .bool false, .bool false, .int .i64 0, .int .u32 0, .slice none 0 0, .bool false, .slice none 0 0, .int .u64 0, .bool false] 37)
      have hs4 : (w3.alloc (.cells #[.int .i64 0, .slice none 0 0, .slice none 0 0, .bool false, .bool false, .int .i64 0, .int .u32 0, .slice none 0 0, .bool false, .slice none 0 0, .int .u64 0, .bool false] 37)).heap.size = w3.heap.size + 1 := World.size_alloc _ _
      obtain ⟨w4, hw4⟩ : ∃ w4, w4 = w3.alloc (.cells #[.int .i64 0, .slice none 0 0, .slice none 0 0, .bool false, .bool false, .int .i64 0, .int .u32 0, .slice none 0 0, .bool false, .slice none 0 0, .int .u64 0, .bool false] 37) := ⟨_, rfl⟩
      rw [← hw4] at hx4 hb4 hs4
      have hw13 := hL.held.ext.size
      have HL4 := Lib.hid ((hL.all hx4).less (X' := fun k => k < w1.heap.size ∨ k = w3.heap.size ∨ (Value.slice none 0 0).ownBlock = some k) (fun k hk => by
        rcases hk with hk | hk | hk
        · exact .inl hk
        · exact .inr (by omega)
        · simp [Value.ownBlock] at hk) (fun k hk => .inl hk))
      have HB4 := Lib.hid hb4
      have HW4 := Lib.hid hw4
      have HBM := Lib.hid hw13
      clear hL hK hx4 hb4 hs4 hw4 hw13 hq HO1 HO2
      go_upto_region 12 with fail
      rw [show w3.alloc (.cells #[.int .i64 0, .slice none 0 0, .slice none 0 0, .bool false, .bool false, .int .i64 0, .int .u32 0, .slice none 0 0, .bool false, .slice none 0 0, .int .u64 0, .bool false] 37) = w4 from HW4.out.symm]
      clear HW4
      generalize w3.heap.size = bm at *
      go_wp2_with fail
      go_loopw [7, 8] (fun gv iv wr => ∃ (i : Nat) (Y : D.Dsk) (recs : List (List UInt8)) (pa : Option Addr) (pc : Nat) (lm : List S6.Pr) (nm : Nat) (g : Bool), i ≤ l.length ∧ iv = .int .i64 (i : Int) ∧ gv = .bool g ∧ lm.length ≤ 64 * i ∧ Hid (S6.Srt lm) ∧ Hid (Logd w1 wr (fun k => k < w1.heap.size ∨ k = bm ∨ (Value.slice pa lm.length pc).ownBlock = some k) p q ⟨Y, 1, recs, false⟩) ∧ Hid (W5.Live Y 1 recs) ∧ Hid (Y.n = 60) ∧ Hid (Y.armed = false) ∧ Hid (wr.heap[bm]? = some (.cells #[.int .i64 0, .slice none 0 0, .slice none 0 0, .bool false, .bool false, .int .i64 0, .int .u32 0, .slice none 0 0, .bool false, .slice pa lm.length pc, .int .u64 (nm : Int), .bool false] 37 (0, 0))) ∧ Hid (RPs wr (.slice pa lm.length pc) lm) ∧ Hid (∀ k, (Value.slice pa lm.length pc).ownBlock = some k → k ≠ bm ∧ w1.heap.size ≤ k ∧ k < wr.heap.size) ∧ Hid (S6.play recs = if g = true then some (lm, nm) else none)) (fun _ iv _ => l.length - (intOf iv).toNat)
      case atStart => exact ⟨0, Y, [], none, 0, [], 0, true, Nat.zero_le _, rfl, rfl, Nat.le_refl _, List.Pairwise.nil, HL4.out, HLV.out, HYN.out, HYA.out, HB4.out, RPs.nil _, (show ∀ k, (Value.slice none 0 0).ownBlock = some k → _ from fun k hk => by simp [Value.ownBlock] at hk), rfl⟩
      case round =>
        clear HL4 HLV HYN HYA HB4
        obtain ⟨i, Y, recs, pa, pc, lm, nm, g, hi, rfl, rfl, hlm, HSR, HL, HLV, HYN, HYA, HBX, HRP, HOW, HPL⟩ := hrel
        by_cases hlt : i < l.length
        · have hlti : (i : Int) < (l.length : Int) := by omega
          obtain ⟨b, off, rfl, hraw⟩ := HS.out.at i hlt
          generalize l[i] = x at *
          obtain ⟨num, ws, at_, mask, cut⟩ := x
          obtain ⟨wv, c0, c1, c2, c3, c4, hrw, hnum, hwa, hmk, hwc, hft⟩ := hraw.ext (HX1.out.trans HL.out.held.ext)
          simp only at c0 c1 c2 c3 c4 hrw hnum hwa hmk hwc hft
          obtain ⟨_, wa, wc, rfl, -⟩ := hrw.shape
          have ha2 := wf_i64 hwa
          have hc2 := wf_i64 hwc
          have HRW := Lib.hid hrw
          have HFT := Lib.hid hft
          clear hraw hrw hft hwa hwc
          by_cases h80 : 80 < ws.length
          · have h80i : (80 : Int) < (ws.length : Int) := by omega
            have HXF := Lib.hid (HX1.out.trans HL.out.held.ext)
            go_wp2_with fail
            go_ret
            exact ⟨rfl, HXF.out⟩
          · have h80i : ¬ (80 : Int) < (ws.length : Int) := by omega
            have hsl := S6.batchTo_lenR num ws ws.length hnum (by omega) HFT.out
            rw [S6.batchTo_all] at hsl
            have hlb := S6.lets_bound ws HFT.out
            have HBT := Lib.hid (fun U (hU : Ext wr U) => refBatch U num _ ws (HRW.out.ext hU) hnum (by omega) HFT.out)
            have hsl2 : (S6.batchB num ws).length ≤ 4000000000000000000 := by omega
            generalize S6.batchB num ws = s at *
            have HC4 := Lib.hid c4
            clear hsl hlb HRW HFT h80
            go_upto_region 18 with fail
            have hHeld := Ext.of_drew wr
            refine wp_region_C (fun w' => Ext wr w') 11 (by kernel_rfl) ?_
            (refine wpAnyC_take [2, 3, 4, 10, 11] (i := 0) (oi := ⟨some 55, _, _, _, _, _⟩) (v := ?_) rfl (by kernel_rfl) (by kernel_rfl) (by kernel_rfl) (by kernel_rfl) (fun _ _ _ h => h) (Or.inl ⟨by rfl, ?_⟩) hHeld ?_; rotate_left; (focus (intro w hSw; (skip); go_simp; first | done | with_reducible rfl)); try simp only [Act.put, List.setIfInBounds_toArray, List.set_cons_zero, List.set_cons_succ])
            (refine wpAnyC_take [2, 3, 4, 10, 11] (i := 1) (oi := ⟨some 56, _, _, _, _, _⟩) (v := ?_) rfl (by kernel_rfl) (by kernel_rfl) (by kernel_rfl) (by kernel_rfl) (fun _ _ _ h => h) (Or.inl ⟨by rfl, ?_⟩) hHeld ?_; rotate_left; (focus (intro w hSw; (skip); go_simp; first | done | with_reducible rfl)); try simp only [Act.put, List.setIfInBounds_toArray, List.set_cons_zero, List.set_cons_succ])
            (refine wpAnyC_take [3, 4, 10, 11] (i := 2) (oi := ⟨some 57, _, _, _, _, _⟩) (v := ?_) rfl (by kernel_rfl) (by kernel_rfl) (by kernel_rfl) (by kernel_rfl) (fun _ _ _ h => h) (Or.inl ⟨by rfl, ?_⟩) hHeld ?_; rotate_left; (focus (intro w hSw; (skip); go_simp; first | done | with_reducible rfl)); try simp only [Act.put, List.setIfInBounds_toArray, List.set_cons_zero, List.set_cons_succ])
            (refine wpAnyC_take [4, 10, 11] (i := 3) (oi := ⟨some 58, _, _, _, _, _⟩) (v := ?_) rfl (by kernel_rfl) (by kernel_rfl) (by kernel_rfl) (by kernel_rfl) (fun _ _ _ h => h) (Or.inl ⟨by rfl, ?_⟩) hHeld ?_; rotate_left; (focus (intro w hSw; (skip); go_simp; first | done | with_reducible rfl)); try simp only [Act.put, List.setIfInBounds_toArray, List.set_cons_zero, List.set_cons_succ])
            (refine wpAnyC_take [10, 11] (i := 4) (oi := ⟨some 59, _, _, _, _, _⟩) (v := ?_) rfl (by kernel_rfl) (by kernel_rfl) (by kernel_rfl) (by kernel_rfl) (fun _ _ _ h => h) (Or.inl ⟨by rfl, ?_⟩) hHeld ?_; rotate_left; (focus (intro w hSw; ((have q := hSw.cell c0)); go_simp; first | done | with_reducible rfl)); try simp only [Act.put, List.setIfInBounds_toArray, List.set_cons_zero, List.set_cons_succ])
            (refine wpAnyC_take [7, 8, 9, 10, 11] (i := 5) (oi := ⟨some 60, _, _, _, _, _⟩) (v := ?_) rfl (by kernel_rfl) (by kernel_rfl) (by kernel_rfl) (by kernel_rfl) (fun _ _ _ h => h) (Or.inl ⟨by rfl, ?_⟩) hHeld ?_; rotate_left; (focus (intro w hSw; (skip); go_simp; first | done | with_reducible rfl)); try simp only [Act.put, List.setIfInBounds_toArray, List.set_cons_zero, List.set_cons_succ])
            (refine wpAnyC_take [7, 8, 9, 10, 11] (i := 6) (oi := ⟨some 61, _, _, _, _, _⟩) (v := ?_) rfl (by kernel_rfl) (by kernel_rfl) (by kernel_rfl) (by kernel_rfl) (fun _ _ _ h => h) (Or.inl ⟨by rfl, ?_⟩) hHeld ?_; rotate_left; (focus (intro w hSw; (skip); go_simp; first | done | with_reducible rfl)); try simp only [Act.put, List.setIfInBounds_toArray, List.set_cons_zero, List.set_cons_succ])
            (refine wpAnyC_take [8, 9, 10, 11] (i := 7) (oi := ⟨some 62, _, _, _, _, _⟩) (v := ?_) rfl (by kernel_rfl) (by kernel_rfl) (by kernel_rfl) (by kernel_rfl) (fun _ _ _ h => h) (Or.inl ⟨by rfl, ?_⟩) hHeld ?_; rotate_left; (focus (intro w hSw; (skip); go_simp; first | done | with_reducible rfl)); try simp only [Act.put, List.setIfInBounds_toArray, List.set_cons_zero, List.set_cons_succ])
            (refine wpAnyC_take [9, 10, 11] (i := 8) (oi := ⟨some 63, _, _, _, _, _⟩) (v := ?_) rfl (by kernel_rfl) (by kernel_rfl) (by kernel_rfl) (by kernel_rfl) (fun _ _ _ h => h) (Or.inl ⟨by rfl, ?_⟩) hHeld ?_; rotate_left; (focus (intro w hSw; (skip); go_simp; first | done | with_reducible rfl)); try simp only [Act.put, List.setIfInBounds_toArray, List.set_cons_zero, List.set_cons_succ])
            (refine wpAnyC_take [10, 11] (i := 9) (oi := ⟨some 64, _, _, _, _, _⟩) (v := ?_) rfl (by kernel_rfl) (by kernel_rfl) (by kernel_rfl) (by kernel_rfl) (fun _ _ _ h => h) (Or.inl ⟨by rfl, ?_⟩) hHeld ?_; rotate_left; (focus (intro w hSw; ((have q := hSw.cell c1)); go_simp; first | done | with_reducible rfl)); try simp only [Act.put, List.setIfInBounds_toArray, List.set_cons_zero, List.set_cons_succ])
            refine wpAnyC_one (i := 10) (oi := ⟨some 65, _, _, _, _, _⟩) rfl (by kernel_rfl) (by decide) (fun K hK => ?_)
            rw [if_pos (by rfl)]
            go_simp
            refine (HBT.out _ hHeld).mono ?_
            rintro e w6 ⟨rfl, hx6⟩
            have hHeld2 := hHeld.trans hx6
            refine hK.out _ _ hHeld2 ?_
            clear hHeld
            have hHeld := hHeld2
            clear hHeld2
            clear hK K
            try simp only [Act.put, List.setIfInBounds_toArray, List.set_cons_zero, List.set_cons_succ]
            refine wpAnyC_c (oi := ⟨some 66, _, _, _, _, _⟩) rfl (by kernel_rfl) (fun K hK => ?_)
            refine step_conv w6 rfl _ rfl s rfl hsl2 ?_
            intro cap7 w7 hx7 hb7 hf7 hs7
            refine hK.out _ _ ?_
            clear hK K
            try simp only [Act.put, List.setIfInBounds_toArray, List.set_cons_zero, List.set_cons_succ]
            (refine wpAny_take (i := 12) (oi := ⟨some 9, _, _, _, _, _⟩) (v := ?_) rfl (by kernel_rfl) (by kernel_rfl) (by kernel_rfl) (fun _ _ _ h => h) (Or.inl ⟨by rfl, ?_⟩) ?_; rotate_left; (focus (intro w; go_simp; first | done | with_reducible rfl)); try simp only [Act.put, List.setIfInBounds_toArray, List.set_cons_zero, List.set_cons_succ])
            refine wpAny_done (by kernel_rfl) ?_ _
            have HX7 := Lib.hid (hHeld.trans hx7)
            have HB7 := Lib.hid hb7
            have HF7 := Lib.hid hf7
            have hgs : wr.heap.size ≤ w6.heap.size := hHeld.size
            have d2 := HX7.out.cell c2
            have d3 := HX7.out.cell c3
            have d4 := HX7.out.cell c4
            clear hHeld hx7 hb7 hf7 HBT hx6 c0 c1 c2 c3 c4
            generalize w6.heap.size = g7 at *
            go_upto_region 19 with fail
            go_cut [82] (fun s82 wx => s82 = .bool (decide (0 ≤ at_ ∧ at_ < (s.length : Int))) ∧ wx = w7)
            case first =>
              by_cases h0 : 0 ≤ at_
              · by_cases h1 : at_ < (s.length : Int)
                · go_wp2_with fail
                  go_meet
                  exact ⟨by simp [h0, h1], rfl⟩
                · have h1b : decide (at_ < (s.length : Int)) = false := decide_eq_false h1
                  go_wp2_with fail
                  go_meet
                  exact ⟨by rw [decide_eq_false (show ¬ (0 ≤ at_ ∧ at_ < (s.length : Int)) by omega)], rfl⟩
              · have h0b : decide (0 ≤ at_) = false := decide_eq_false h0
                go_wp2_with fail
                go_meet
                exact ⟨by rw [decide_eq_false (show ¬ (0 ≤ at_ ∧ at_ < (s.length : Int)) by omega)], rfl⟩
            case rest =>
              obtain ⟨rfl, rfl⟩ := hcut
              rename World => w7
              go_upto_if 82 with fail
              go_cut [] (fun wx => Hid (∃ B : List UInt8, B.length = s.length ∧ Bs wx (.slice (some ⟨g7, 0, none⟩) s.length cap7) B ∧ Ext wr wx ∧ g7 < wx.heap.size))
              case first =>
                by_cases hin : 0 ≤ at_ ∧ at_ < (s.length : Int)
                · rw [decide_eq_true hin]
                  obtain ⟨j, rfl⟩ : ∃ j : Nat, at_ = (j : Int) := ⟨at_.toNat, by omega⟩
                  have hj : j < s.length := by omega
                  have hji : (j : Int) < (s.length : Int) := by omega
                  have hj0 : (0 : Int) ≤ (j : Int) := by omega
                  have bc : w7.cell? ⟨g7, j, none⟩ = some (.int .u8 (s[j].toNat : Int)) := by
                    obtain ⟨a9, cap9, h1, -, -, -, -, h6⟩ := HB7.out
                    obtain ⟨rfl, _, rfl⟩ := Value.slice.inj h1
                    rcases h6 with h6 | ⟨b9, off9, hb9, hc9⟩
                    · rw [List.map_eq_nil_iff.1 h6] at hj; cases hj
                    · obtain ⟨rfl, rfl, _⟩ := Addr.mk.inj (Option.some.inj hb9)
                      have := hc9 j (byteVal s[j]) (by rw [List.getElem?_map, List.getElem?_eq_getElem hj]; rfl)
                      rw [Nat.zero_add] at this
                      exact this
                  have hfz := HF7.out j hj
                  have hxor := xor_u8c s[j] mask hmk.1 hmk.2
                  go_wp2_with fail
                  have hHeld := Ext.of_drew w7
                  refine wp_region_C (fun w' => Ext w7 w') 21 (by kernel_rfl) ?_
                  (refine wpAnyC_take [21] (i := 0) (oi := ⟨some 83, _, _, _, _, _⟩) (v := ?_) rfl (by kernel_rfl) (by kernel_rfl) (by kernel_rfl) (by kernel_rfl) (fun _ _ _ h => h) (Or.inl ⟨by rfl, ?_⟩) hHeld ?_; rotate_left; (focus (intro w hSw; (skip); go_simp; first | done | with_reducible rfl)); try simp only [Act.put, List.setIfInBounds_toArray, List.set_cons_zero, List.set_cons_succ])
                  (refine wpAnyC_take [21] (i := 1) (oi := ⟨some 84, _, _, _, _, _⟩) (v := ?_) rfl (by kernel_rfl) (by kernel_rfl) (by kernel_rfl) (by kernel_rfl) (fun _ _ _ h => h) (Or.inl ⟨by rfl, ?_⟩) hHeld ?_; rotate_left; (focus (intro w hSw; (skip); go_simp; first | done | with_reducible rfl)); try simp only [Act.put, List.setIfInBounds_toArray, List.set_cons_zero, List.set_cons_succ])
                  (refine wpAnyC_take [21] (i := 2) (oi := ⟨some 85, _, _, _, _, _⟩) (v := ?_) rfl (by kernel_rfl) (by kernel_rfl) (by kernel_rfl) (by kernel_rfl) (fun _ _ _ h => h) (Or.inl ⟨by rfl, ?_⟩) hHeld ?_; rotate_left; (focus (intro w hSw; (skip); go_simp; first | done | with_reducible rfl)); try simp only [Act.put, List.setIfInBounds_toArray, List.set_cons_zero, List.set_cons_succ])
                  (refine wpAnyC_take [21] (i := 3) (oi := ⟨some 86, _, _, _, _, _⟩) (v := ?_) rfl (by kernel_rfl) (by kernel_rfl) (by kernel_rfl) (by kernel_rfl) (fun _ _ _ h => h) (Or.inl ⟨by rfl, ?_⟩) hHeld ?_; rotate_left; (focus (intro w hSw; (skip); go_simp; first | done | with_reducible rfl)); try simp only [Act.put, List.setIfInBounds_toArray, List.set_cons_zero, List.set_cons_succ])
                  (refine wpAnyC_take [21] (i := 4) (oi := ⟨some 87, _, _, _, _, _⟩) (v := ?_) rfl (by kernel_rfl) (by kernel_rfl) (by kernel_rfl) (by kernel_rfl) (fun _ _ _ h => h) (Or.inl ⟨by rfl, ?_⟩) hHeld ?_; rotate_left; (focus (intro w hSw; (skip); go_simp; first | done | with_reducible rfl)); try simp only [Act.put, List.setIfInBounds_toArray, List.set_cons_zero, List.set_cons_succ])
                  (refine wpAnyC_take [21] (i := 5) (oi := ⟨some 88, _, _, _, _, _⟩) (v := ?_) rfl (by kernel_rfl) (by kernel_rfl) (by kernel_rfl) (by kernel_rfl) (fun _ _ _ h => h) (Or.inl ⟨by rfl, ?_⟩) hHeld ?_; rotate_left; (focus (intro w hSw; ((have q := hSw.cell d2)); go_simp; first | done | with_reducible rfl)); try simp only [Act.put, List.setIfInBounds_toArray, List.set_cons_zero, List.set_cons_succ])
                  (refine wpAnyC_take [21] (i := 6) (oi := ⟨some 89, _, _, _, _, _⟩) (v := ?_) rfl (by kernel_rfl) (by kernel_rfl) (by kernel_rfl) (by kernel_rfl) (fun _ _ _ h => h) (Or.inl ⟨by rfl, ?_⟩) hHeld ?_; rotate_left; (focus (intro w hSw; (skip); go_simp; first | done | with_reducible rfl)); try simp only [Act.put, List.setIfInBounds_toArray, List.set_cons_zero, List.set_cons_succ])
                  (refine wpAnyC_take [21] (i := 7) (oi := ⟨some 90, _, _, _, _, _⟩) (v := ?_) rfl (by kernel_rfl) (by kernel_rfl) (by kernel_rfl) (by kernel_rfl) (fun _ _ _ h => h) (Or.inl ⟨by rfl, ?_⟩) hHeld ?_; rotate_left; (focus (intro w hSw; (skip); go_simp; first | done | with_reducible rfl)); try simp only [Act.put, List.setIfInBounds_toArray, List.set_cons_zero, List.set_cons_succ])
                  (refine wpAnyC_take [21] (i := 8) (oi := ⟨some 91, _, _, _, _, _⟩) (v := ?_) rfl (by kernel_rfl) (by kernel_rfl) (by kernel_rfl) (by kernel_rfl) (fun _ _ _ h => h) (Or.inl ⟨by rfl, ?_⟩) hHeld ?_; rotate_left; (focus (intro w hSw; (skip); go_simp; first | done | with_reducible rfl)); try simp only [Act.put, List.setIfInBounds_toArray, List.set_cons_zero, List.set_cons_succ])
                  (refine wpAnyC_take [21] (i := 9) (oi := ⟨some 92, _, _, _, _, _⟩) (v := ?_) rfl (by kernel_rfl) (by kernel_rfl) (by kernel_rfl) (by kernel_rfl) (fun _ _ _ h => h) (Or.inl ⟨by rfl, ?_⟩) hHeld ?_; rotate_left; (focus (intro w hSw; (skip); go_simp; first | done | with_reducible rfl)); try simp only [Act.put, List.setIfInBounds_toArray, List.set_cons_zero, List.set_cons_succ])
                  (refine wpAnyC_take [21] (i := 10) (oi := ⟨some 93, _, _, _, _, _⟩) (v := ?_) rfl (by kernel_rfl) (by kernel_rfl) (by kernel_rfl) (by kernel_rfl) (fun _ _ _ h => h) (Or.inl ⟨by rfl, ?_⟩) hHeld ?_; rotate_left; (focus (intro w hSw; (skip); go_simp; first | done | with_reducible rfl)); try simp only [Act.put, List.setIfInBounds_toArray, List.set_cons_zero, List.set_cons_succ])
                  (refine wpAnyC_take [21] (i := 11) (oi := ⟨some 94, _, _, _, _, _⟩) (v := ?_) rfl (by kernel_rfl) (by kernel_rfl) (by kernel_rfl) (by kernel_rfl) (fun _ _ _ h => h) (Or.inl ⟨by rfl, ?_⟩) hHeld ?_; rotate_left; (focus (intro w hSw; ((have q := hSw.cell d2)); go_simp; first | done | with_reducible rfl)); try simp only [Act.put, List.setIfInBounds_toArray, List.set_cons_zero, List.set_cons_succ])
                  (refine wpAnyC_take [21] (i := 12) (oi := ⟨some 95, _, _, _, _, _⟩) (v := ?_) rfl (by kernel_rfl) (by kernel_rfl) (by kernel_rfl) (by kernel_rfl) (fun _ _ _ h => h) (Or.inl ⟨by rfl, ?_⟩) hHeld ?_; rotate_left; (focus (intro w hSw; (skip); go_simp; first | done | with_reducible rfl)); try simp only [Act.put, List.setIfInBounds_toArray, List.set_cons_zero, List.set_cons_succ])
                  (refine wpAnyC_take [21] (i := 13) (oi := ⟨some 96, _, _, _, _, _⟩) (v := ?_) rfl (by kernel_rfl) (by kernel_rfl) (by kernel_rfl) (by kernel_rfl) (fun _ _ _ h => h) (Or.inl ⟨by rfl, ?_⟩) hHeld ?_; rotate_left; (focus (intro w hSw; ((have q := hSw.cell bc)); go_simp; first | done | with_reducible rfl)); try simp only [Act.put, List.setIfInBounds_toArray, List.set_cons_zero, List.set_cons_succ])
                  (refine wpAnyC_take [21] (i := 14) (oi := ⟨some 97, _, _, _, _, _⟩) (v := ?_) rfl (by kernel_rfl) (by kernel_rfl) (by kernel_rfl) (by kernel_rfl) (fun _ _ _ h => h) (Or.inl ⟨by rfl, ?_⟩) hHeld ?_; rotate_left; (focus (intro w hSw; (skip); go_simp; first | done | with_reducible rfl)); try simp only [Act.put, List.setIfInBounds_toArray, List.set_cons_zero, List.set_cons_succ])
                  (refine wpAnyC_take [21] (i := 15) (oi := ⟨some 98, _, _, _, _, _⟩) (v := ?_) rfl (by kernel_rfl) (by kernel_rfl) (by kernel_rfl) (by kernel_rfl) (fun _ _ _ h => h) (Or.inl ⟨by rfl, ?_⟩) hHeld ?_; rotate_left; (focus (intro w hSw; (skip); go_simp; first | done | with_reducible rfl)); try simp only [Act.put, List.setIfInBounds_toArray, List.set_cons_zero, List.set_cons_succ])
                  (refine wpAnyC_take [21] (i := 16) (oi := ⟨some 99, _, _, _, _, _⟩) (v := ?_) rfl (by kernel_rfl) (by kernel_rfl) (by kernel_rfl) (by kernel_rfl) (fun _ _ _ h => h) (Or.inl ⟨by rfl, ?_⟩) hHeld ?_; rotate_left; (focus (intro w hSw; (skip); go_simp; first | done | with_reducible rfl)); try simp only [Act.put, List.setIfInBounds_toArray, List.set_cons_zero, List.set_cons_succ])
                  (refine wpAnyC_take [21] (i := 17) (oi := ⟨some 100, _, _, _, _, _⟩) (v := ?_) rfl (by kernel_rfl) (by kernel_rfl) (by kernel_rfl) (by kernel_rfl) (fun _ _ _ h => h) (Or.inl ⟨by rfl, ?_⟩) hHeld ?_; rotate_left; (focus (intro w hSw; (skip); go_simp; first | done | with_reducible rfl)); try simp only [Act.put, List.setIfInBounds_toArray, List.set_cons_zero, List.set_cons_succ])
                  (refine wpAnyC_take [21] (i := 18) (oi := ⟨some 101, _, _, _, _, _⟩) (v := ?_) rfl (by kernel_rfl) (by kernel_rfl) (by kernel_rfl) (by kernel_rfl) (fun _ _ _ h => h) (Or.inl ⟨by rfl, ?_⟩) hHeld ?_; rotate_left; (focus (intro w hSw; ((have q := hSw.cell d3)); go_simp; first | done | with_reducible rfl)); try simp only [Act.put, List.setIfInBounds_toArray, List.set_cons_zero, List.set_cons_succ])
                  (refine wpAnyC_take [21] (i := 19) (oi := ⟨some 102, _, _, _, _, _⟩) (v := ?_) rfl (by kernel_rfl) (by kernel_rfl) (by kernel_rfl) (by kernel_rfl) (fun _ _ _ h => h) (Or.inl ⟨by rfl, ?_⟩) hHeld ?_; rotate_left; (focus (intro w hSw; (skip); go_simp; first | done | with_reducible rfl)); try simp only [Act.put, List.setIfInBounds_toArray, List.set_cons_zero, List.set_cons_succ])
                  (refine wpAnyC_take [21] (i := 20) (oi := ⟨some 103, _, _, _, _, _⟩) (v := ?_) rfl (by kernel_rfl) (by kernel_rfl) (by kernel_rfl) (by kernel_rfl) (fun _ _ _ h => h) (Or.inl ⟨by rfl, ?_⟩) hHeld ?_; rotate_left; (focus (intro w hSw; (skip); go_simp; first | done | with_reducible rfl)); try simp only [Act.put, List.setIfInBounds_toArray, List.set_cons_zero, List.set_cons_succ])
                  refine wpAnyC_c (oi := ⟨none, _, _, _, _, _⟩) rfl (by kernel_rfl) (fun K hK => ?_)
                  rw [if_pos (by rfl)]
                  go_simp
                  refine hK.out _ _ ?_
                  clear hK K
                  try simp only [Act.put, List.setIfInBounds_toArray, List.set_cons_zero, List.set_cons_succ]
                  refine wpAny_done (by kernel_rfl) ?_ _
                  go_wp2_with fail
                  go_meet
                  have hb9 := Bs.poke HB7.out j hj (s[j] ^^^ UInt8.ofNat mask.toNat)
                  rw [show byteVal (s[j] ^^^ UInt8.ofNat mask.toNat) = .int .u8 ((s[j].toNat ^^^ mask.toNat % 256 : Nat) : Int) by simp [byteVal]] at hb9
                  have hms := Mod.setCell (F := fun z => z = g7) w7 ⟨g7, j, none⟩ (.int .u8 ((s[j].toNat ^^^ mask.toNat % 256 : Nat) : Int)) rfl
                  exact ⟨_, by rw [List.length_set], hb9.ext (Ext.of_drew _), (Mod.ext HX7.out hms (fun z hz => by omega)).trans (Ext.of_drew _), Nat.lt_of_lt_of_le hs7 (Nat.le_trans hms.size (Ext.of_drew _).size)⟩
                · rw [decide_eq_false hin]
                  go_wp2_with fail
                  go_meet
                  exact ⟨s, rfl, HB7.out, HX7.out, hs7⟩
              case rest =>
                rename World => w8
                obtain ⟨B, hBl, hB8, hX8, hg8⟩ := hcut.out
                have HB8 := Lib.hid hB8
                have HX8 := Lib.hid hX8
                have e4 : w8.cell? ⟨b, off + i * 5 + 4, none⟩ = some (.int .i64 cut) := hX8.cell (HC4.out)
                clear hcut hB8 hX8 HB7 HX7 HF7 d2 d3 d4 hs7
                go_upto_region 21 with fail
                go_cut [119] (fun s119 wx => s119 = .bool (decide (0 < cut ∧ cut ≤ (s.length : Int))) ∧ wx = w8)
                case first =>
                  by_cases h0 : 0 < cut
                  · by_cases h1 : cut ≤ (s.length : Int)
                    · go_wp2_with fail
                      go_meet
                      exact ⟨by simp [h0, h1], rfl⟩
                    · have h1b : decide (cut ≤ (s.length : Int)) = false := decide_eq_false h1
                      go_wp2_with fail
                      go_meet
                      exact ⟨by rw [decide_eq_false (show ¬ (0 < cut ∧ cut ≤ (s.length : Int)) by omega)], rfl⟩
                  · have h0b : decide (0 < cut) = false := decide_eq_false h0
                    go_wp2_with fail
                    go_meet
                    exact ⟨by rw [decide_eq_false (show ¬ (0 < cut ∧ cut ≤ (s.length : Int)) by omega)], rfl⟩
                case rest =>
                  obtain ⟨rfl, rfl⟩ := hcut
                  rename World => w8
                  go_upto_if 119 with fail
                  go_cut [9] (fun s9 wx => Hid (∃ B : List UInt8, s9 = .slice (some ⟨g7, 0, none⟩) B.length cap7 ∧ Bs wx (.slice (some ⟨g7, 0, none⟩) B.length cap7) B ∧ B.length ≤ 4000000000000000000 ∧ wx = w8))
                  case first =>
                    by_cases hin : 0 < cut ∧ cut ≤ (s.length : Int)
                    · rw [decide_eq_true hin]
                      obtain ⟨k, hk⟩ : ∃ k : Nat, (s.length : Int) - cut = (k : Int) := ⟨((s.length : Int) - cut).toNat, by omega⟩
                      have hwr : IntKind.i64.wrap ((s.length : Int) - cut) = (k : Int) := by rw [IntKind.wrap_i64]; omega
                      have hkl : k ≤ s.length := by omega
                      have hcap : s.length ≤ cap7 := by
                        obtain ⟨a9, cap9, h1, h2, -⟩ := HB8.out
                        obtain ⟨_, h3, rfl⟩ := Value.slice.inj h1
                        rw [← h3] at h2
                        exact h2
                      have hk0 : (0 : Int) ≤ (k : Int) := by omega
                      have hkc : (k : Int) ≤ (cap7 : Int) := by omega
                      have HK := Lib.hid hk
                      have hsh := HB8.out.short k (by omega)
                      have hlk : (B.take k).length = k := by rw [List.length_take]; omega
                      have HSH := Lib.hid hsh
                      have HLK := Lib.hid hlk
                      clear hk hsh hlk hin
                      go_wp2_with fail
                      go_meet
                      exact ⟨B.take k, by rw [HLK.out], by rw [HLK.out]; exact HSH.out, by rw [HLK.out]; omega, rfl⟩
                    · rw [decide_eq_false hin]
                      go_wp2_with fail
                      go_meet
                      exact ⟨B, by rw [hBl], by rw [hBl]; exact HB8.out, by rw [hBl]; exact hsl2, rfl⟩
                  case rest =>
                    obtain ⟨B2, rfl, hb9, hbl9, rfl⟩ := hcut.out
                    rename World => w8
                    clear hcut
                    have hap := append_any (HL.out.all HX8.out) (.slice (some ⟨g7, 0, none⟩) B2.length cap7) B2 hb9 (fun k hk => by
                      obtain rfl : g7 = k := by simpa [Value.ownBlock] using hk
                      exact .inr ⟨hgs, hg8⟩) (show Y.wait.length ≤ 1073600000 by rw [HLV.out.wait]; simp)
                    by_cases h1 : 8192 < B2.length
                    · rw [W5.append_size B2 h1] at hap
                      have HAP := Lib.hid hap
                      clear hap hb9
                      go_wp2_with fail
                      refine HAP.out.mono ?_
                      clear HAP
                      rintro e w9 ⟨rfl, hL9, hK9⟩
                      have hb9b := blk_mod ((Below.block (B := wr.heap.size) HX8.out bm (blk_lt HBX.out)).trans HBX.out) hK9 (fun h => h (.inl (.inr (.inl rfl))))
                      have HL9 := Lib.hid (hL9.less (X' := fun k => k < w1.heap.size ∨ k = bm ∨ (Value.slice pa lm.length pc).ownBlock = some k) (fun k hk => .inl hk) (fun k hk => .inl hk))
                      have HB9 := Lib.hid hb9b
                      have hr9 : RPs w9 (.slice pa lm.length pc) lm := ReadsN.keeps (HRP.out.ext HX8.out) hK9 (fun k hk => .inl (.inr (.inr hk)))
                      have HR9 := Lib.hid hr9
                      have HO9 : Hid (∀ k, (Value.slice pa lm.length pc).ownBlock = some k → k ≠ bm ∧ w1.heap.size ≤ k ∧ k < w9.heap.size) := fun k hk => ⟨(HOW.out k hk).1, (HOW.out k hk).2.1, Nat.lt_of_lt_of_le (HOW.out k hk).2.2 (Nat.le_trans HX8.out.size hK9.size)⟩
                      clear hL9 hK9 hb9b hr9
                      go_wp2_with fail
                      exact ⟨⟨i + 1, Y, recs, pa, pc, lm, nm, g, by omega, by go_num, rfl, by omega, HSR, HL9, HLV, HYN, HYA, HB9, HR9, HO9, HPL⟩, by simp [intOf]; omega⟩
                    · by_cases h2 : W5.area Y < W5.used recs + W5.need B2.length
                      · rw [W5.append_full B2 (by omega) h2] at hap
                        have HAP := Lib.hid hap
                        clear hap hb9 h2
                        go_wp2_with fail
                        refine HAP.out.mono ?_
                        clear HAP
                        rintro e w9 ⟨rfl, hL9, hK9⟩
                        have hb9b := blk_mod ((Below.block (B := wr.heap.size) HX8.out bm (blk_lt HBX.out)).trans HBX.out) hK9 (fun h => h (.inl (.inr (.inl rfl))))
                        have HL9 := Lib.hid (hL9.less (X' := fun k => k < w1.heap.size ∨ k = bm ∨ (Value.slice pa lm.length pc).ownBlock = some k) (fun k hk => .inl hk) (fun k hk => .inl hk))
                        have HB9 := Lib.hid hb9b
                        have hr9 : RPs w9 (.slice pa lm.length pc) lm := ReadsN.keeps (HRP.out.ext HX8.out) hK9 (fun k hk => .inl (.inr (.inr hk)))
                        have HR9 := Lib.hid hr9
                        have HO9 : Hid (∀ k, (Value.slice pa lm.length pc).ownBlock = some k → k ≠ bm ∧ w1.heap.size ≤ k ∧ k < w9.heap.size) := fun k hk => ⟨(HOW.out k hk).1, (HOW.out k hk).2.1, Nat.lt_of_lt_of_le (HOW.out k hk).2.2 (Nat.le_trans HX8.out.size hK9.size)⟩
                        clear hL9 hK9 hb9b hr9
                        go_wp2_with fail
                        exact ⟨⟨i + 1, Y, recs, pa, pc, lm, nm, g, by omega, by go_num, rfl, by omega, HSR, HL9, HLV, HYN, HYA, HB9, HR9, HO9, HPL⟩, by simp [intOf]; omega⟩
                      · obtain ⟨q0, Y2, q1, q2, q3, q4⟩ := W5.append_ok HLV.out HYA.out B2 (by omega) (by omega)
                        rw [q0, q1] at hap
                        have HAP := Lib.hid hap
                        have HLV2 := Lib.hid q2
                        have HYN2 := Lib.hid (q3.trans HYN.out)
                        have HYA2 := Lib.hid q4
                        have HBB := Lib.hid hb9
                        clear hap hb9 h2 q0 q1 q2 q3 q4
                        go_wp2_with fail
                        refine HAP.out.mono ?_
                        clear HAP
                        rintro e w9 ⟨rfl, hL9, hK9⟩
                        have hb9b := blk_mod ((Below.block (B := wr.heap.size) HX8.out bm (blk_lt HBX.out)).trans HBX.out) hK9 (fun h => h (.inl (.inr (.inl rfl))))
                        have hr9 : RPs w9 (.slice pa lm.length pc) lm := ReadsN.keeps (HRP.out.ext HX8.out) hK9 (fun k hk => .inl (.inr (.inr hk)))
                        have hbs9 : Bs w9 (.slice (some ⟨g7, 0, none⟩) B2.length cap7) B2 := hK9.bs HBB.out (fun k hk => by
                          obtain rfl : g7 = k := by simpa [Value.ownBlock] using hk
                          exact .inr ⟨hgs, hg8⟩)
                        have cv : (convert 59 9 (.slice (some ⟨g7, 0, none⟩) B2.length cap7)).run Try.prog w9 = .ok (.string ⟨B2.toArray⟩) w9 := hbs9.toString (P := Try.prog) 59 9 5 Try.underlying59 Try.underlying5 Try.underlying9
                        have HRD := Lib.hid (refRead B2 w9 (by omega))
                        have HL9 := Lib.hid hL9
                        have HB9 := Lib.hid hb9b
                        have HR9 := Lib.hid hr9
                        have hs9 := Nat.le_trans HX8.out.size hK9.size
                        have HO9 : Hid (∀ k, (Value.slice pa lm.length pc).ownBlock = some k → k ≠ bm ∧ w1.heap.size ≤ k ∧ k < w9.heap.size) := fun k hk => ⟨(HOW.out k hk).1, (HOW.out k hk).2.1, Nat.lt_of_lt_of_le (HOW.out k hk).2.2 hs9⟩
                        clear hL9 hK9 hb9b hr9 hbs9 hs9 HBB e4 h1
                        go_wp2_with fail
                        unfold ReadOut at HRD
                        refine HRD.out.mono ?_
                        clear HRD cv
                        rintro e w10 ⟨rn, rv, ok, rfl, hx10, hok, hval⟩
                        have HL10 := Lib.hid ((HL9.out.after hx10).less (X' := fun k => k < w1.heap.size ∨ k = bm ∨ (Value.slice pa lm.length pc).ownBlock = some k) (fun k hk => .inl hk) (fun k hk => .inl hk))
                        have HB10 := Lib.hid ((Below.block (B := w9.heap.size) hx10 bm (blk_lt HB9.out)).trans HB9.out)
                        have HR10 := Lib.hid (HR9.out.ext hx10)
                        have HO10 : Hid (∀ k, (Value.slice pa lm.length pc).ownBlock = some k → k ≠ bm ∧ w1.heap.size ≤ k ∧ k < w10.heap.size) := fun k hk => ⟨(HO9.out k hk).1, (HO9.out k hk).2.1, Nat.lt_of_lt_of_le (HO9.out k hk).2.2 hx10.size⟩
                        cases g with
                        | false =>
                          have hpn : S6.play (recs ++ [B2]) = if false = true then some (lm, nm) else none := by
                            rw [if_neg (by decide)]
                            exact S6.play_none (by have := HPL.out; rw [if_neg (by decide)] at this; exact this) B2
                          have HPN := Lib.hid hpn
                          clear hpn hok hval hx10
                          cases ok
                          all_goals
                            go_wp2_with fail
                            exact ⟨⟨i + 1, Y2, recs ++ [B2], pa, pc, lm, nm, false, by omega, by go_num, rfl, by omega, HSR, HL10, HLV2, HYN2, HYA2, HB10, HR10, HO10, HPN⟩, by simp [intOf]; omega⟩
                        | true =>
                          have hpl : S6.play recs = some (lm, nm) := by have := HPL.out; rw [if_pos rfl] at this; exact this
                          cases hrb : S6.readB B2 with
                          | none =>
                            rw [hrb] at hok
                            obtain rfl : ok = false := hok
                            have hpn : S6.play (recs ++ [B2]) = if false = true then some (lm, nm) else none := by
                              rw [if_neg (by decide)]
                              exact S6.play_none2 hpl hrb
                            have HPN := Lib.hid hpn
                            clear hpn hval hx10 hpl hrb
                            go_wp2_with fail
                            exact ⟨⟨i + 1, Y2, recs ++ [B2], pa, pc, lm, nm, false, by omega, by go_num, rfl, by omega, HSR, HL10, HLV2, HYN2, HYA2, HB10, HR10, HO10, HPN⟩, by simp [intOf]; omega⟩
                          | some mw =>
                            obtain ⟨m, ws2⟩ := mw
                            rw [hrb] at hok
                            obtain rfl : ok = true := hok
                            obtain ⟨rfl, hrw2⟩ := hval m ws2 hrb
                            obtain ⟨-, hwl2, -⟩ := S6.readB_ok hrb
                            have hpn := S6.play_snoc hpl hrb
                            have hsv : s6v gz (.slice pa lm.length pc) nm false = .agg #[.int .i64 0, .slice none 0 0, .slice none 0 0, .bool false, .bool false, .int .i64 0, .int .u32 0, .slice none 0 0, .bool false, .slice pa lm.length pc, .int .u64 (nm : Int), .bool false] := rfl
                            have hap := refApply w10 gz (.slice pa lm.length pc) nm m false lm rv ws2 HR10.out (fun k hk => (HO10.out k hk).2.2) (by omega) HSR.out hrw2 (by omega) (by simp [gz, Value.oneCell'])
                            rw [hsv] at hap
                            have HAP := Lib.hid hap
                            have HPN := Lib.hid (show S6.play (recs ++ [B2]) = if true = true then some (S6.apl lm m ws2, max nm m) else none by rw [if_pos rfl]; exact hpn)
                            have hal := S6.apl_len m ws2 lm
                            have HSR2 := Lib.hid (S6.apl_srt HSR.out m ws2)
                            have HX10 := Lib.hid hx10
                            obtain ⟨_, ra, rc, rfl, -⟩ := hrw2.shape
                            obtain ⟨k0, k1, k2, k3, k4, k5, k6, k7, k8, k9, k10, k11⟩ := box12 HB10.out
                            clear hpn hsv hap hval hx10 hpl hrb hrw2
                            go_wp2_with fail
                            refine HAP.out.mono ?_
                            clear HAP
                            rintro e w11 ⟨pv2, rfl, hP11, hO11, hx11⟩
                            obtain ⟨_, pb, pd, rfl, _⟩ := hP11.shape
                            have hb11 := (Below.block (B := w10.heap.size) hx11 bm (blk_lt HB10.out)).trans HB10.out
                            have hms := mod_setCells (fun z => z = bm) w11 bm 0 [.int .i64 0, .slice none 0 0, .slice none 0 0, .bool false, .bool false, .int .i64 0, .int .u32 0, .slice none 0 0, .bool false, .slice pb (S6.apl lm m ws2).length pd, .int .u64 ((max nm m : Nat) : Int), .bool false] rfl
                            have hb12 : (w11.setCells bm 0 [.int .i64 0, .slice none 0 0, .slice none 0 0, .bool false, .bool false, .int .i64 0, .int .u32 0, .slice none 0 0, .bool false, .slice pb (S6.apl lm m ws2).length pd, .int .u64 ((max nm m : Nat) : Int), .bool false]).heap[bm]? = some (.cells #[.int .i64 0, .slice none 0 0, .slice none 0 0, .bool false, .bool false, .int .i64 0, .int .u32 0, .slice none 0 0, .bool false, .slice pb (S6.apl lm m ws2).length pd, .int .u64 ((max nm m : Nat) : Int), .bool false] 37 (0, 0)) := by rw [blk_setCells bm 37 [.int .i64 0, .slice none 0 0, .slice none 0 0, .bool false, .bool false, .int .i64 0, .int .u32 0, .slice none 0 0, .bool false, .slice pb (S6.apl lm m ws2).length pd, .int .u64 ((max nm m : Nat) : Int), .bool false] 0 w11 [.int .i64 0, .slice none 0 0, .slice none 0 0, .bool false, .bool false, .int .i64 0, .int .u32 0, .slice none 0 0, .bool false, .slice pa lm.length pc, .int .u64 (nm : Int), .bool false] hb11 (by simp)]; simp
                            have HTH := Lib.hid (there_blk (cs := [.int .i64 0, .slice none 0 0, .slice none 0 0, .bool false, .bool false, .int .i64 0, .int .u32 0, .slice none 0 0, .bool false, .slice pa lm.length pc, .int .u64 (nm : Int), .bool false]) hb11 0 12 (by simp))
                            have hgp : ∀ k, (Value.slice pb (S6.apl lm m ws2).length pd).ownBlock = some k → k ≠ bm ∧ w1.heap.size ≤ k ∧ k < w11.heap.size := fun k hk => by
                              have h5 := hO11 k hk
                              have h6 := HX10.out.size
                              have h7 := blk_lt HB9.out
                              have h8 := HBM.out
                              rcases h5.1 with h9 | h9
                              · have := HO10.out k h9; omega
                              · omega
                            have HL12 := Lib.hid ((((HL9.out.all (HX10.out.trans hx11)).modX (F := fun z => z = bm) hms (fun k e => by subst e; exact .inl (.inl (.inr (.inl rfl)))) (fun k e => by subst e; exact HBM.out))).less (X' := fun k => k < w1.heap.size ∨ k = bm ∨ (Value.slice pb (S6.apl lm m ws2).length pd).ownBlock = some k) (fun k hk => by
                              rcases hk with hk | hk | hk
                              · exact .inl (.inl (.inl hk))
                              · exact .inl (.inl (.inr (.inl hk)))
                              · rcases (hO11 k hk).1 with h9 | h9
                                · exact .inl (.inl (.inr (.inr h9)))
                                · exact .inr ⟨Nat.le_trans HX10.out.size h9, (hO11 k hk).2⟩) (fun k hk => .inl hk))
                            have HB12 := Lib.hid hb12
                            have HP12 := Lib.hid (hP11.mod hms (fun k hk => (hgp k hk).1))
                            have HO12 : Hid (∀ k, (Value.slice pb (S6.apl lm m ws2).length pd).ownBlock = some k → k ≠ bm ∧ w1.heap.size ≤ k ∧ k < (w11.setCells bm 0 [.int .i64 0, .slice none 0 0, .slice none 0 0, .bool false, .bool false, .int .i64 0, .int .u32 0, .slice none 0 0, .bool false, .slice pb (S6.apl lm m ws2).length pd, .int .u64 ((max nm m : Nat) : Int), .bool false]).heap.size) := fun k hk => ⟨(hgp k hk).1, (hgp k hk).2.1, Nat.lt_of_lt_of_le (hgp k hk).2.2 hms.size⟩
                            clear hb11 hms hb12 hgp hP11 hO11 hx11 k0 k1 k2 k3 k4 k5 k6 k7 k8 k9 k10 k11
                            unfold s6v gz
                            go_wp2_with (first
                              | ((with_reducible show wpList _ _ _ (⟨none, Op.store _ _ _, _, _, _, _⟩ :: _) _ _); refine wpList_store_mid rfl 37 _ _ rfl bm 0 #[.int .i64 0, .slice none 0 0, .slice none 0 0, .bool false, .bool false, .int .i64 0, .int .u32 0, .slice none 0 0, .bool false, .slice pb (S6.apl lm m ws2).length pd, .int .u64 ((max nm m : Nat) : Int), .bool false] (by rfl) (by rfl) HTH.out (by kernel_rfl) (by simp [Value.oneCell']) ?_)
                              | fail)
                            exact ⟨⟨i + 1, Y2, recs ++ [B2], pb, pd, S6.apl lm m ws2, max nm m, true, by omega, by go_num, rfl, by omega, HSR2, HL12, HLV2, HYN2, HYA2, HB12, HP12, HO12, HPN⟩, by simp [intOf]; omega⟩
        · have hge : ¬ (i : Int) < (l.length : Int) := by omega
          have hH := HL.out.held
          have hre := live_rest HLV.out hH.okd
          cases g with
          | true =>
            have hpl : S6.play recs = some (lm, nm) := by have := HPL.out; rw [if_pos rfl] at this; exact this
            have hop := open6_last hH hre HYA.out (by decide) hpl
            have HOP := Lib.hid hop
            clear hop hpl hre hH
            go_wp2_with fail
            refine HOP.out.mono ?_
            clear HOP
            rintro e w9 ⟨q2, Z, rfl, hZ, hZl, hZn, hK9⟩
            have hb9 := blk_mod HBX.out hK9 (fun h => h (.inr (.inl rfl)))
            have hr9 : RPs w9 (.slice pa lm.length pc) lm := ReadsN.keeps HRP.out hK9 (fun k hk => .inr (.inr hk))
            have hte := tells6_any hZ gz (.slice pa lm.length pc) false (by rw [hZl]; exact hr9)
            rw [hZn] at hte
            have hsv : s6v gz (.slice pa lm.length pc) nm false = .agg #[.int .i64 0, .slice none 0 0, .slice none 0 0, .bool false, .bool false, .int .i64 0, .int .u32 0, .slice none 0 0, .bool false, .slice pa lm.length pc, .int .u64 (nm : Int), .bool false] := rfl
            rw [hsv] at hte
            have HTE := Lib.hid hte
            have HXF := Lib.hid (HX1.out.trans hZ.toExt)
            obtain ⟨k0, k1, k2, k3, k4, k5, k6, k7, k8, k9, k10, k11⟩ := box12 hb9
            clear hb9 hr9 hte hsv hZ hZl hZn hK9 HL HBX HRP HOW
            go_wp2_with fail
            refine HTE.out.mono ?_
            clear HTE
            rintro e w10 ⟨rfl, hx10⟩
            have HXG := Lib.hid (HXF.out.trans hx10)
            clear hx10
            go_wp2_with fail
            go_ret
            exact ⟨rfl, HXG.out⟩
          | false =>
            have hpl : S6.play recs = none := by have := HPL.out; rw [if_neg (by decide)] at this; exact this
            have hop := open6_bad hH hre HYA.out (by decide) hpl
            have HOP := Lib.hid hop
            clear hop hpl hre hH
            go_wp2_with fail
            refine HOP.out.mono ?_
            clear HOP
            rintro e w9 ⟨rfl, hx9⟩
            have HXG := Lib.hid (HX1.out.trans hx9)
            clear hx9
            go_wp2_with fail
            go_ret
            exact ⟨rfl, HXG.out⟩
    · exact absurd HO1.out h9
end Go.Proofs.Ytnjfioikpajhlaa
