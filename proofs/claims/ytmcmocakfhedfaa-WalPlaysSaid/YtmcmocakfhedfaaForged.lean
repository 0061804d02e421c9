/- jetwaylaw05.forged: a sector that is laid by hand. (Printed by tools/mkforged.py.) -/
import Derived.Test.YtmcmocakfhedfaaConvB
namespace Go.Proofs.Ytmcmocakfhedfaa
open Go.RowKit

theorem ten_facts {v : World} {b : Nat} {a0 a1 a2 a3 a4 a5 a6 a7 a8 a9 : Value} {e : TypeId} (h : v.heap[b]? = some (.cells #[a0, a1, a2, a3, a4, a5, a6, a7, a8, a9] e (0, 0))) :
    v.cell? ⟨b, 0, none⟩ = some a0 ∧ v.cell? ⟨b, 1, none⟩ = some a1 ∧ v.cell? ⟨b, 2, none⟩ = some a2 ∧ v.cell? ⟨b, 3, none⟩ = some a3 ∧ v.cell? ⟨b, 4, none⟩ = some a4 ∧ v.cell? ⟨b, 5, none⟩ = some a5 ∧ v.cell? ⟨b, 6, none⟩ = some a6 ∧ v.cell? ⟨b, 7, none⟩ = some a7 ∧ v.cell? ⟨b, 8, none⟩ = some a8 ∧ v.cell? ⟨b, 9, none⟩ = some a9 := by
  have h2 : v.heap[b]? = some (.cells [a0, a1, a2, a3, a4, a5, a6, a7, a8, a9].toArray e (0, 0)) := h
  exact ⟨blk_cell h2 0, blk_cell h2 1, blk_cell h2 2, blk_cell h2 3, blk_cell h2 4, blk_cell h2 5, blk_cell h2 6, blk_cell h2 7, blk_cell h2 8, blk_cell h2 9⟩
/-- A sector made by hand: some bytes in a block of their own. -/
def Forged (w w' : World) (e : Ending) : Prop := ∃ v l, e = .returned v ∧ Bs w' v l ∧ (∀ k, v.ownBlock = some k → w.heap.size ≤ k ∧ k < w'.heap.size) ∧ Ext w w'

set_option maxRecDepth 100000 in
set_option maxHeartbeats 6400000 in
/-- The last steps: a byte is turned, if there is one at that place. -/
theorem forged_any (i at_ mask : Int) (pc : Bool) (g rc k ps ln : Nat) (dv : Value) (data : List UInt8) (w : World) (hd : Bs w dv data) (hg : g < 4294967296) (hrc : rc < 4294967296) (hk : k < 4294967296) (hps : ps < 4294967296) (hln : ln < 4294967296) (hm0 : 0 ≤ mask) (hm1 : mask < 256) :
    Calls Try.prog 28 #[.agg #[.int .i64 i, .int .i64 at_, .bool pc, .int .u32 (g : Int), .int .u32 (rc : Int), .int .u32 (k : Int), .int .u32 (ps : Int), .int .u32 (ln : Int), dv, .int .u8 mask]] w fun e w' => Forged w w' e := by
  have HH := Lib.hid (fun w => refHead g w hg)
  have HB := Lib.hid hd
  obtain ⟨da, dc, rfl⟩ := hd.shape
  generalize data.length = dn at *
  have hx1 := Ext.of_alloc w (.cells #[.int .i64 i, .int .i64 at_, .bool pc, .int .u32 (g : Int), .int .u32 (rc : Int), .int .u32 (k : Int), .int .u32 (ps : Int), .int .u32 (ln : Int), .slice da dn dc, .int .u8 mask] 58)
  have hbx := fun (v : World) hx => ten_facts (one_box w #[.int .i64 i, .int .i64 at_, .bool pc, .int .u32 (g : Int), .int .u32 (rc : Int), .int .u32 (k : Int), .int .u32 (ps : Int), .int .u32 (ln : Int), .slice da dn dc, .int .u8 mask] 58 (v := v) hx)
  have HBX := Lib.hid hbx
  have hgi : (g : Int) < 4294967296 := by omega
  have hrci : (rc : Int) < 4294967296 := by omega
  have hki : (k : Int) < 4294967296 := by omega
  have hpsi : (ps : Int) < 4294967296 := by omega
  have hlni : (ln : Int) < 4294967296 := by omega
  have HPC := Lib.hid (fun (body : List UInt8) (hb : body.length ≤ 1000000) (w : World) => refPiece g rc k ps ln body w hg (by omega) (by omega) (by omega) (by omega) hb)
  have HRD : Hid (∀ (size : Int) (v : World), Ext w v → Calls Try.prog 16 #[.slice da dn dc, .int .i64 size] v fun e w' => ∃ (v' : Value) (body : List UInt8), e = .returned v' ∧ body.length ≤ 1000000 ∧ w'.ownsRow v.heap.size 5 1 v' body.length (body.map byteVal) ∧ Ext v w') := fun size v hv => by
    refine (record_any (.slice da dn dc) data size v (HB.out.ext hv)).mono ?_
    rintro e w' ⟨v', he, ho, hx⟩
    exact ⟨v', _, he, by rw [W5.record_len]; exact Nat.le_trans (W5.recN_le _) (by decide), ho, hx⟩
  have HTL : Hid (∀ body : List UInt8, (W5.pieceT g rc k ps ln body).length ≤ 100000) := fun body => by
    unfold W5.pieceT W5.sealedT
    rw [List.length_append, W5.fillL_len, W.be_length]
    decide
  have hwr : IntKind.u64.wrap (rc : Int) = (rc : Int) := by rw [IntKind.wrap_u64]; omega
  have hwk : IntKind.u64.wrap (k : Int) = (k : Int) := by rw [IntKind.wrap_u64]; omega
  have hwp : IntKind.u64.wrap (ps : Int) = (ps : Int) := by rw [IntKind.wrap_u64]; omega
  have hwl : IntKind.u64.wrap (ln : Int) = (ln : Int) := by rw [IntKind.wrap_u64]; omega
  clear hd hbx
  go_enter Try.func28, Try.ntmps28
  go_upto_region 1 with (fail)
  generalize w.alloc (.cells #[.int .i64 i, .int .i64 at_, .bool pc, .int .u32 (g : Int), .int .u32 (rc : Int), .int .u32 (k : Int), .int .u32 (ps : Int), .int .u32 (ln : Int), .slice da dn dc, .int .u8 mask] 58) = wb at *
  have HX1 := Lib.hid hx1
  have HW1 := Lib.hid hx1.size
  clear hx1
  obtain ⟨c0, c1, c2, c3, c4, c5, c6, c7, c8, c9⟩ := HBX.out wb (Ext.refl wb)
  go_wp2_with fail
  refine (HH.out _).mono ?_
  rintro e w2 ⟨rfl, hx2⟩
  have HHL := Lib.hid (show (W5.head g).length ≤ 100000 by rw [W5.head_len]; decide)
  have HX2 := Lib.hid hx2
  clear hx2 c0 c1 c2 c3 c4 c5 c6 c7 c8 c9 HH
  unfold strV
  generalize W5.head g = HD at *
  obtain ⟨c0, c1, c2, c3, c4, c5, c6, c7, c8, c9⟩ := HBX.out w2 HX2.out
  cases pc with
  | false =>
    clear hgi hrci hki hpsi hlni HPC HRD
    go_upto_region 6 with (first
      | ((with_reducible show wpList _ _ _ (⟨some 9, _, _, _, _, _⟩ :: _) _ _); refine wpl_conv _ rfl _ rfl HD rfl HHL.out ?_; intro cap w3 hx3 hb3 hf3 hs3; have HX3 := Lib.hid (HX2.out.trans hx3); have HB3 := Lib.hid hb3; have HF3 := Lib.hid hf3; have HL3 := Lib.hid hs3; clear hx3 hb3 hf3 hs3 c0 c1 c2 c3 c4 c5 c6 c7 c8 c9; obtain ⟨c0, c1, c2, c3, c4, c5, c6, c7, c8, c9⟩ := HBX.out w3 HX3.out)
      | fail)
    have HSB := Lib.hid (show w.heap.size ≤ w2.heap.size from Nat.le_trans HW1.out HX2.out.size)
    generalize w2.heap.size = gb at *
    generalize w3 = wl at *
    by_cases ha0 : 0 ≤ at_
    · by_cases ha1 : at_ < (HD.length : Int)
      · obtain ⟨j, rfl⟩ : ∃ j : Nat, at_ = (j : Int) := ⟨at_.toNat, by omega⟩
        have hjl : j < HD.length := by omega
        have hcell : wl.cell? ⟨gb, j, none⟩ = some (.int .u8 ((HD[j]).toNat : Int)) := by
          have h9 := HB3.out
          obtain ⟨a9, c9', hv9, h91, h92, h93, h94, h95⟩ := h9
          rcases h95 with h95 | ⟨b9, o9, hb9, hc9⟩
          · rw [List.map_eq_nil_iff.1 h95] at hjl; cases hjl
          · obtain ⟨rfl, _, _⟩ := Value.slice.inj hv9
            obtain ⟨rfl, rfl, _⟩ := Addr.mk.inj (Option.some.inj hb9)
            have h96 := hc9 j (byteVal HD[j]) (by rw [List.getElem?_map, List.getElem?_eq_getElem hjl]; rfl)
            rw [Nat.zero_add] at h96
            exact h96
        have hfro := HF3.out j hjl
        have hxr := xor_u8c HD[j] mask hm0 hm1
        have HPK := Lib.hid (HB3.out.poke j hjl (HD[j] ^^^ UInt8.ofNat mask.toNat))
        have hxl := HD[j].toNat_lt
        have hHX := Ext.of_drew wl
        go_wp2_with fail
        have hHeld := hHX
        refine wp_region_C (fun w' => Ext wl w') 12 (by kernel_rfl) ?_
        (refine wpAnyC_take [12] (i := 0) (oi := ⟨some 55, _, _, _, _, _⟩) (v := ?_) rfl (by kernel_rfl) (by kernel_rfl) (by kernel_rfl) (by kernel_rfl) (fun _ _ _ h => h) (Or.inl ⟨by rfl, ?_⟩) hHeld ?_; rotate_left; (focus (intro w hSw; (skip); go_simp; first | done | with_reducible rfl)); try simp only [Act.put, List.setIfInBounds_toArray, List.set_cons_zero, List.set_cons_succ])
        (refine wpAnyC_take [12] (i := 1) (oi := ⟨some 56, _, _, _, _, _⟩) (v := ?_) rfl (by kernel_rfl) (by kernel_rfl) (by kernel_rfl) (by kernel_rfl) (fun _ _ _ h => h) (Or.inl ⟨by rfl, ?_⟩) hHeld ?_; rotate_left; (focus (intro w hSw; (skip); go_simp; first | done | with_reducible rfl)); try simp only [Act.put, List.setIfInBounds_toArray, List.set_cons_zero, List.set_cons_succ])
        (refine wpAnyC_take [12] (i := 2) (oi := ⟨some 57, _, _, _, _, _⟩) (v := ?_) rfl (by kernel_rfl) (by kernel_rfl) (by kernel_rfl) (by kernel_rfl) (fun _ _ _ h => h) (Or.inl ⟨by rfl, ?_⟩) hHeld ?_; rotate_left; (focus (intro w hSw; ((have q := hSw.cell c1)); go_simp; first | done | with_reducible rfl)); try simp only [Act.put, List.setIfInBounds_toArray, List.set_cons_zero, List.set_cons_succ])
        (refine wpAnyC_take [12] (i := 3) (oi := ⟨some 58, _, _, _, _, _⟩) (v := ?_) rfl (by kernel_rfl) (by kernel_rfl) (by kernel_rfl) (by kernel_rfl) (fun _ _ _ h => h) (Or.inl ⟨by rfl, ?_⟩) hHeld ?_; rotate_left; (focus (intro w hSw; (skip); go_simp; first | done | with_reducible rfl)); try simp only [Act.put, List.setIfInBounds_toArray, List.set_cons_zero, List.set_cons_succ])
        (refine wpAnyC_take [12] (i := 4) (oi := ⟨some 59, _, _, _, _, _⟩) (v := ?_) rfl (by kernel_rfl) (by kernel_rfl) (by kernel_rfl) (by kernel_rfl) (fun _ _ _ h => h) (Or.inl ⟨by rfl, ?_⟩) hHeld ?_; rotate_left; (focus (intro w hSw; (skip); go_simp; first | done | with_reducible rfl)); try simp only [Act.put, List.setIfInBounds_toArray, List.set_cons_zero, List.set_cons_succ])
        (refine wpAnyC_take [12] (i := 5) (oi := ⟨some 60, _, _, _, _, _⟩) (v := ?_) rfl (by kernel_rfl) (by kernel_rfl) (by kernel_rfl) (by kernel_rfl) (fun _ _ _ h => h) (Or.inl ⟨by rfl, ?_⟩) hHeld ?_; rotate_left; (focus (intro w hSw; ((have q := hSw.cell c1)); go_simp; first | done | with_reducible rfl)); try simp only [Act.put, List.setIfInBounds_toArray, List.set_cons_zero, List.set_cons_succ])
        (refine wpAnyC_take [12] (i := 6) (oi := ⟨some 61, _, _, _, _, _⟩) (v := ?_) rfl (by kernel_rfl) (by kernel_rfl) (by kernel_rfl) (by kernel_rfl) (fun _ _ _ h => h) (Or.inl ⟨by rfl, ?_⟩) hHeld ?_; rotate_left; (focus (intro w hSw; (skip); go_simp; first | done | with_reducible rfl)); try simp only [Act.put, List.setIfInBounds_toArray, List.set_cons_zero, List.set_cons_succ])
        (refine wpAnyC_take [12] (i := 7) (oi := ⟨some 62, _, _, _, _, _⟩) (v := ?_) rfl (by kernel_rfl) (by kernel_rfl) (by kernel_rfl) (by kernel_rfl) (fun _ _ _ h => h) (Or.inl ⟨by rfl, ?_⟩) hHeld ?_; rotate_left; (focus (intro w hSw; ((have q := hSw.cell hcell)); go_simp; first | done | with_reducible rfl)); try simp only [Act.put, List.setIfInBounds_toArray, List.set_cons_zero, List.set_cons_succ])
        (refine wpAnyC_take [12] (i := 8) (oi := ⟨some 63, _, _, _, _, _⟩) (v := ?_) rfl (by kernel_rfl) (by kernel_rfl) (by kernel_rfl) (by kernel_rfl) (fun _ _ _ h => h) (Or.inl ⟨by rfl, ?_⟩) hHeld ?_; rotate_left; (focus (intro w hSw; (skip); go_simp; first | done | with_reducible rfl)); try simp only [Act.put, List.setIfInBounds_toArray, List.set_cons_zero, List.set_cons_succ])
        (refine wpAnyC_take [12] (i := 9) (oi := ⟨some 64, _, _, _, _, _⟩) (v := ?_) rfl (by kernel_rfl) (by kernel_rfl) (by kernel_rfl) (by kernel_rfl) (fun _ _ _ h => h) (Or.inl ⟨by rfl, ?_⟩) hHeld ?_; rotate_left; (focus (intro w hSw; ((have q := hSw.cell c9)); go_simp; first | done | with_reducible rfl)); try simp only [Act.put, List.setIfInBounds_toArray, List.set_cons_zero, List.set_cons_succ])
        (refine wpAnyC_take [12] (i := 10) (oi := ⟨some 65, _, _, _, _, _⟩) (v := ?_) rfl (by kernel_rfl) (by kernel_rfl) (by kernel_rfl) (by kernel_rfl) (fun _ _ _ h => h) (Or.inl ⟨by rfl, ?_⟩) hHeld ?_; rotate_left; (focus (intro w hSw; (skip); go_simp; first | done | with_reducible rfl)); try simp only [Act.put, List.setIfInBounds_toArray, List.set_cons_zero, List.set_cons_succ])
        (refine wpAnyC_take [12] (i := 11) (oi := ⟨some 66, _, _, _, _, _⟩) (v := ?_) rfl (by kernel_rfl) (by kernel_rfl) (by kernel_rfl) (by kernel_rfl) (fun _ _ _ h => h) (Or.inl ⟨by rfl, ?_⟩) hHeld ?_; rotate_left; (focus (intro w hSw; (skip); go_simp; first | done | with_reducible rfl)); try simp only [Act.put, List.setIfInBounds_toArray, List.set_cons_zero, List.set_cons_succ])
        refine wpAnyC_c (oi := ⟨none, _, _, _, _, _⟩) rfl (by kernel_rfl) (fun K hK => ?_)
        rw [if_pos (by rfl)]
        go_simp
        refine hK.out _ _ ?_
        clear hK K
        try simp only [Act.put, List.setIfInBounds_toArray, List.set_cons_zero, List.set_cons_succ]
        refine wpAny_done (by kernel_rfl) ?_ _
        have HPK := Lib.hid ((HB3.out.ext hHX).poke j hjl (HD[j] ^^^ UInt8.ofNat mask.toNat))
        have HPX := Lib.hid ((HX1.out.trans (HX3.out.trans hHX)).setCell (p := ⟨gb, j, none⟩) HSB.out (byteVal (HD[j] ^^^ UInt8.ofNat mask.toNat)))
        have HPS := Lib.hid (show gb < (wl.drew.setCell ⟨gb, j, none⟩ (byteVal (HD[j] ^^^ UInt8.ofNat mask.toNat))).heap.size by have := HL3.out; simp; exact this)
        clear hHX hHeld hcell hfro
        go_wp2
        refine bodyPost_ret (v := .slice (some ⟨gb, 0, none⟩) HD.length cap) (by simp [results, Try.results28, go_sem]) rfl ?_
        exact ⟨_, _, rfl, HPK.out, fun k hk => by simp [Value.ownBlock] at hk; subst hk; exact ⟨HSB.out, HPS.out⟩, HPX.out⟩
      · have ha1d : decide (at_ < (HD.length : Int)) = false := decide_eq_false ha1
        clear ha1
        go_wp2
        refine bodyPost_ret (v := .slice (some ⟨gb, 0, none⟩) HD.length cap) (by simp [results, Try.results28, go_sem]) rfl ?_
        exact ⟨_, _, rfl, HB3.out, fun k hk => by simp [Value.ownBlock] at hk; subst hk; exact ⟨HSB.out, HL3.out⟩, HX1.out.trans HX3.out⟩
    · have ha0d : decide (0 ≤ at_) = false := decide_eq_false ha0
      clear ha0
      go_wp2
      refine bodyPost_ret (v := .slice (some ⟨gb, 0, none⟩) HD.length cap) (by simp [results, Try.results28, go_sem]) rfl ?_
      exact ⟨_, _, rfl, HB3.out, fun k hk => by simp [Value.ownBlock] at hk; subst hk; exact ⟨HSB.out, HL3.out⟩, HX1.out.trans HX3.out⟩
  | true =>
    obtain ⟨a, ha⟩ : ∃ a, a = ln % 10000 := ⟨_, rfl⟩
    obtain ⟨b, hb⟩ : ∃ b, b = k % 100 := ⟨_, rfl⟩
    have hta : (ln : Int).tmod 10000 = (a : Int) := by rw [ha, Int.ofNat_tmod]; rfl
    have htb : (k : Int).tmod 100 = (b : Int) := by rw [hb, Int.ofNat_tmod]; rfl
    have ha2 : (a : Int) < 10000 := by omega
    have hb2 : (b : Int) < 100 := by omega
    clear ha hb hlni hki hgi hrci hpsi
    go_wp2_with (first
      | ((with_reducible show wpList _ _ _ (⟨some 9, _, _, _, _, _⟩ :: _) _ _); refine wpl_conv _ rfl _ rfl HD rfl HHL.out ?_; intro cap0 w3 hx3 hb3 hf3 hs3; have HX3 := Lib.hid (HX2.out.trans hx3); clear hx3 hb3 hf3 hs3 c0 c1 c2 c3 c4 c5 c6 c7 c8 c9; obtain ⟨c0, c1, c2, c3, c4, c5, c6, c7, c8, c9⟩ := HBX.out w3 HX3.out)
      | fail)
    all_goals
      refine (HRD.out _ _ (HX1.out.trans HX3.out)).mono ?_
      rintro e w4 ⟨v4, body, rfl, hbl, ho4, hx4⟩
      have HX4 := Lib.hid (HX3.out.trans hx4)
      have hcv := (Bs.of_own ho4).toString (P := Try.prog) 31 9 5 Try.underlying31 Try.underlying5 Try.underlying9
      obtain ⟨va, vc, rfl⟩ := (Bs.of_own ho4).shape
      have HPB := Lib.hid (HPC.out body hbl)
      have HTB := Lib.hid (HTL.out body)
      clear ho4 hx4 c0 c1 c2 c3 c4 c5 c6 c7 c8 c9 hbl
      obtain ⟨c0, c1, c2, c3, c4, c5, c6, c7, c8, c9⟩ := HBX.out w4 HX4.out
      dsimp only
      go_wp2_with fail
      refine (HPB.out w4).mono ?_
      rintro e w5 ⟨rfl, hx5⟩
      have HX5 := Lib.hid (HX4.out.trans hx5)
      clear hx5 c0 c1 c2 c3 c4 c5 c6 c7 c8 c9 hcv HPB
      unfold strV
      have HHD := HTB
      generalize W5.pieceT g rc k ps ln body = HD2 at *
      clear hwr hwk hwp hwl hta htb ha2 hb2
      obtain ⟨c0, c1, c2, c3, c4, c5, c6, c7, c8, c9⟩ := HBX.out w5 HX5.out
      go_upto_region 6 with (first
        | ((with_reducible show wpList _ _ _ (⟨some 44, _, _, _, _, _⟩ :: _) _ _); refine wpl_conv _ rfl _ rfl HD2 rfl HHD.out ?_; intro cap w6 hx6 hb6 hf6 hs6; have HX6 := Lib.hid (HX5.out.trans hx6); have HB3 := Lib.hid hb6; have HF3 := Lib.hid hf6; have HL3 := Lib.hid hs6; clear hx6 hb6 hf6 hs6 c0 c1 c2 c3 c4 c5 c6 c7 c8 c9; obtain ⟨c0, c1, c2, c3, c4, c5, c6, c7, c8, c9⟩ := HBX.out w6 HX6.out)
        | fail)
      have HSB := Lib.hid (show w.heap.size ≤ w5.heap.size from Nat.le_trans HW1.out HX5.out.size)
      clear HX3
      have HX3 := HX6
      clear HX6 HX5 HX4
      generalize w5.heap.size = gb at *
      generalize w6 = wl at *
      by_cases ha0 : 0 ≤ at_
      · by_cases ha1 : at_ < (HD2.length : Int)
        · obtain ⟨j, rfl⟩ : ∃ j : Nat, at_ = (j : Int) := ⟨at_.toNat, by omega⟩
          have hjl : j < HD2.length := by omega
          have hcell : wl.cell? ⟨gb, j, none⟩ = some (.int .u8 ((HD2[j]).toNat : Int)) := by
            have h9 := HB3.out
            obtain ⟨a9, c9', hv9, h91, h92, h93, h94, h95⟩ := h9
            rcases h95 with h95 | ⟨b9, o9, hb9, hc9⟩
            · rw [List.map_eq_nil_iff.1 h95] at hjl; cases hjl
            · obtain ⟨rfl, _, _⟩ := Value.slice.inj hv9
              obtain ⟨rfl, rfl, _⟩ := Addr.mk.inj (Option.some.inj hb9)
              have h96 := hc9 j (byteVal HD2[j]) (by rw [List.getElem?_map, List.getElem?_eq_getElem hjl]; rfl)
              rw [Nat.zero_add] at h96
              exact h96
          have hfro := HF3.out j hjl
          have hxr := xor_u8c HD2[j] mask hm0 hm1
          have HPK := Lib.hid (HB3.out.poke j hjl (HD2[j] ^^^ UInt8.ofNat mask.toNat))
          have hxl := HD2[j].toNat_lt
          have hHX := Ext.of_drew wl
          go_wp2_with fail
          have hHeld := hHX
          refine wp_region_C (fun w' => Ext wl w') 12 (by kernel_rfl) ?_
          (refine wpAnyC_take [12] (i := 0) (oi := ⟨some 55, _, _, _, _, _⟩) (v := ?_) rfl (by kernel_rfl) (by kernel_rfl) (by kernel_rfl) (by kernel_rfl) (fun _ _ _ h => h) (Or.inl ⟨by rfl, ?_⟩) hHeld ?_; rotate_left; (focus (intro w hSw; (skip); go_simp; first | done | with_reducible rfl)); try simp only [Act.put, List.setIfInBounds_toArray, List.set_cons_zero, List.set_cons_succ])
          (refine wpAnyC_take [12] (i := 1) (oi := ⟨some 56, _, _, _, _, _⟩) (v := ?_) rfl (by kernel_rfl) (by kernel_rfl) (by kernel_rfl) (by kernel_rfl) (fun _ _ _ h => h) (Or.inl ⟨by rfl, ?_⟩) hHeld ?_; rotate_left; (focus (intro w hSw; (skip); go_simp; first | done | with_reducible rfl)); try simp only [Act.put, List.setIfInBounds_toArray, List.set_cons_zero, List.set_cons_succ])
          (refine wpAnyC_take [12] (i := 2) (oi := ⟨some 57, _, _, _, _, _⟩) (v := ?_) rfl (by kernel_rfl) (by kernel_rfl) (by kernel_rfl) (by kernel_rfl) (fun _ _ _ h => h) (Or.inl ⟨by rfl, ?_⟩) hHeld ?_; rotate_left; (focus (intro w hSw; ((have q := hSw.cell c1)); go_simp; first | done | with_reducible rfl)); try simp only [Act.put, List.setIfInBounds_toArray, List.set_cons_zero, List.set_cons_succ])
          (refine wpAnyC_take [12] (i := 3) (oi := ⟨some 58, _, _, _, _, _⟩) (v := ?_) rfl (by kernel_rfl) (by kernel_rfl) (by kernel_rfl) (by kernel_rfl) (fun _ _ _ h => h) (Or.inl ⟨by rfl, ?_⟩) hHeld ?_; rotate_left; (focus (intro w hSw; (skip); go_simp; first | done | with_reducible rfl)); try simp only [Act.put, List.setIfInBounds_toArray, List.set_cons_zero, List.set_cons_succ])
          (refine wpAnyC_take [12] (i := 4) (oi := ⟨some 59, _, _, _, _, _⟩) (v := ?_) rfl (by kernel_rfl) (by kernel_rfl) (by kernel_rfl) (by kernel_rfl) (fun _ _ _ h => h) (Or.inl ⟨by rfl, ?_⟩) hHeld ?_; rotate_left; (focus (intro w hSw; (skip); go_simp; first | done | with_reducible rfl)); try simp only [Act.put, List.setIfInBounds_toArray, List.set_cons_zero, List.set_cons_succ])
          (refine wpAnyC_take [12] (i := 5) (oi := ⟨some 60, _, _, _, _, _⟩) (v := ?_) rfl (by kernel_rfl) (by kernel_rfl) (by kernel_rfl) (by kernel_rfl) (fun _ _ _ h => h) (Or.inl ⟨by rfl, ?_⟩) hHeld ?_; rotate_left; (focus (intro w hSw; ((have q := hSw.cell c1)); go_simp; first | done | with_reducible rfl)); try simp only [Act.put, List.setIfInBounds_toArray, List.set_cons_zero, List.set_cons_succ])
          (refine wpAnyC_take [12] (i := 6) (oi := ⟨some 61, _, _, _, _, _⟩) (v := ?_) rfl (by kernel_rfl) (by kernel_rfl) (by kernel_rfl) (by kernel_rfl) (fun _ _ _ h => h) (Or.inl ⟨by rfl, ?_⟩) hHeld ?_; rotate_left; (focus (intro w hSw; (skip); go_simp; first | done | with_reducible rfl)); try simp only [Act.put, List.setIfInBounds_toArray, List.set_cons_zero, List.set_cons_succ])
          (refine wpAnyC_take [12] (i := 7) (oi := ⟨some 62, _, _, _, _, _⟩) (v := ?_) rfl (by kernel_rfl) (by kernel_rfl) (by kernel_rfl) (by kernel_rfl) (fun _ _ _ h => h) (Or.inl ⟨by rfl, ?_⟩) hHeld ?_; rotate_left; (focus (intro w hSw; ((have q := hSw.cell hcell)); go_simp; first | done | with_reducible rfl)); try simp only [Act.put, List.setIfInBounds_toArray, List.set_cons_zero, List.set_cons_succ])
          (refine wpAnyC_take [12] (i := 8) (oi := ⟨some 63, _, _, _, _, _⟩) (v := ?_) rfl (by kernel_rfl) (by kernel_rfl) (by kernel_rfl) (by kernel_rfl) (fun _ _ _ h => h) (Or.inl ⟨by rfl, ?_⟩) hHeld ?_; rotate_left; (focus (intro w hSw; (skip); go_simp; first | done | with_reducible rfl)); try simp only [Act.put, List.setIfInBounds_toArray, List.set_cons_zero, List.set_cons_succ])
          (refine wpAnyC_take [12] (i := 9) (oi := ⟨some 64, _, _, _, _, _⟩) (v := ?_) rfl (by kernel_rfl) (by kernel_rfl) (by kernel_rfl) (by kernel_rfl) (fun _ _ _ h => h) (Or.inl ⟨by rfl, ?_⟩) hHeld ?_; rotate_left; (focus (intro w hSw; ((have q := hSw.cell c9)); go_simp; first | done | with_reducible rfl)); try simp only [Act.put, List.setIfInBounds_toArray, List.set_cons_zero, List.set_cons_succ])
          (refine wpAnyC_take [12] (i := 10) (oi := ⟨some 65, _, _, _, _, _⟩) (v := ?_) rfl (by kernel_rfl) (by kernel_rfl) (by kernel_rfl) (by kernel_rfl) (fun _ _ _ h => h) (Or.inl ⟨by rfl, ?_⟩) hHeld ?_; rotate_left; (focus (intro w hSw; (skip); go_simp; first | done | with_reducible rfl)); try simp only [Act.put, List.setIfInBounds_toArray, List.set_cons_zero, List.set_cons_succ])
          (refine wpAnyC_take [12] (i := 11) (oi := ⟨some 66, _, _, _, _, _⟩) (v := ?_) rfl (by kernel_rfl) (by kernel_rfl) (by kernel_rfl) (by kernel_rfl) (fun _ _ _ h => h) (Or.inl ⟨by rfl, ?_⟩) hHeld ?_; rotate_left; (focus (intro w hSw; (skip); go_simp; first | done | with_reducible rfl)); try simp only [Act.put, List.setIfInBounds_toArray, List.set_cons_zero, List.set_cons_succ])
          refine wpAnyC_c (oi := ⟨none, _, _, _, _, _⟩) rfl (by kernel_rfl) (fun K hK => ?_)
          rw [if_pos (by rfl)]
          go_simp
          refine hK.out _ _ ?_
          clear hK K
          try simp only [Act.put, List.setIfInBounds_toArray, List.set_cons_zero, List.set_cons_succ]
          refine wpAny_done (by kernel_rfl) ?_ _
          have HPK := Lib.hid ((HB3.out.ext hHX).poke j hjl (HD2[j] ^^^ UInt8.ofNat mask.toNat))
          have HPX := Lib.hid ((HX1.out.trans (HX3.out.trans hHX)).setCell (p := ⟨gb, j, none⟩) HSB.out (byteVal (HD2[j] ^^^ UInt8.ofNat mask.toNat)))
          have HPS := Lib.hid (show gb < (wl.drew.setCell ⟨gb, j, none⟩ (byteVal (HD2[j] ^^^ UInt8.ofNat mask.toNat))).heap.size by have := HL3.out; simp; exact this)
          clear hHX hHeld hcell hfro
          go_wp2
          refine bodyPost_ret (v := .slice (some ⟨gb, 0, none⟩) HD2.length cap) (by simp [results, Try.results28, go_sem]) rfl ?_
          exact ⟨_, _, rfl, HPK.out, fun k hk => by simp [Value.ownBlock] at hk; subst hk; exact ⟨HSB.out, HPS.out⟩, HPX.out⟩
        · have ha1d : decide (at_ < (HD2.length : Int)) = false := decide_eq_false ha1
          clear ha1
          go_wp2
          refine bodyPost_ret (v := .slice (some ⟨gb, 0, none⟩) HD2.length cap) (by simp [results, Try.results28, go_sem]) rfl ?_
          exact ⟨_, _, rfl, HB3.out, fun k hk => by simp [Value.ownBlock] at hk; subst hk; exact ⟨HSB.out, HL3.out⟩, HX1.out.trans HX3.out⟩
      · have ha0d : decide (0 ≤ at_) = false := decide_eq_false ha0
        clear ha0
        go_wp2
        refine bodyPost_ret (v := .slice (some ⟨gb, 0, none⟩) HD2.length cap) (by simp [results, Try.results28, go_sem]) rfl ?_
        exact ⟨_, _, rfl, HB3.out, fun k hk => by simp [Value.ownBlock] at hk; subst hk; exact ⟨HSB.out, HL3.out⟩, HX1.out.trans HX3.out⟩
end Go.Proofs.Ytmcmocakfhedfaa
