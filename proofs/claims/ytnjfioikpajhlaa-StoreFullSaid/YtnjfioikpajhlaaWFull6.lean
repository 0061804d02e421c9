import Derived.Test.YtnjfioikpajhlaaRefF6
import Derived.Test.YtnjfioikpajhlaaPlainZ
/- StoreFull, the walk. (Printed by tools/mkwfull6.py.) -/
namespace Go.Proofs.Ytnjfioikpajhlaa
open Go.RowKit Go.Shelf

theorem W5.usedTo_step (l : List (List UInt8)) (i : Nat) (h : i < l.length) : W5.usedTo l (i + 1) = W5.usedTo l i + W5.need l[i].length := by
  unfold W5.usedTo
  rw [List.take_succ_eq_append_getElem h, List.map_append, List.sum_append]
  simp
set_option maxRecDepth 100000 in
set_option maxHeartbeats 6400000 in
theorem walk_storeFull (n : Int) (sv : Value) (l : List Act6) (kz sz : Int) (w : World) (hwn : (Lit.int .i64 n).wf = true) (hs : Acts6In w sv l) (hwk : (Lit.int .u8 kz).wf = true) (hwz : (Lit.int .i64 sz).wf = true) :
    Calls Try.prog 5 #[.int .i64 n, sv, .int .u8 kz, .int .i64 sz] w fun e w' => e = .returned (.bool true) ∧ Ext w w' := by
  obtain ⟨a, cap, rfl, hll⟩ := hs.shape
  have HS := Lib.hid hs
  have hn := wf_i64 hwn
  have hk := wf_u8 hwk
  have hz := wf_i64 hwz
  obtain ⟨kb, rfl⟩ : ∃ kb : UInt8, kz = (kb.toNat : Int) := ⟨UInt8.ofNat kz.toNat, by rw [W.u8_of]; omega⟩
  clear hs hwn hwk hwz hk
  go_enter Try.func5, Try.ntmps5
  go_wp2_with fail
  refine (awake6 w).mono ?_
  rintro e w1 ⟨rfl, hx1⟩
  have HX1 := Lib.hid hx1
  clear hx1
  by_cases hbad : n < 4 ∨ 60 < n ∨ 30 < l.length
  · have hb := begun6_bad n _ l w1 (HS.out.ext HX1.out) hbad
    have HB := Lib.hid hb
    have HBAD := Lib.hid hbad
    clear hb HS hbad
    unfold zst at HB
    go_wp2_with fail
    refine HB.out.mono ?_
    clear HB
    rintro e w2 ⟨rfl, hx2⟩
    have HX2 := Lib.hid (HX1.out.trans hx2)
    clear hx2 HX1
    by_cases h4 : n < 4
    · clear HBAD
      go_wp2
      go_ret
      exact ⟨by simp [h4], HX2.out.alloc _⟩
    · by_cases h60 : 60 < n
      · clear HBAD
        go_wp2
        go_ret
        exact ⟨by simp [h60], HX2.out.alloc _⟩
      · have hbi : (30 : Int) < (l.length : Int) := by have := HBAD.out; omega
        clear HBAD
        go_wp2
        go_ret
        exact ⟨by simp [hbi], HX2.out.alloc _⟩
  · have h4 : 4 ≤ n := by omega
    have h60 : n ≤ 60 := by omega
    have hb := begun6 n _ l w1 (HS.out.ext HX1.out) (by omega) h4 h60
    have HB := Lib.hid hb
    clear hb HS hbad
    go_wp2_with fail
    refine HB.out.mono ?_
    clear HB
    rintro e w2 ⟨p, q, S, pv, rfl, hL, hI, hown⟩
    obtain ⟨pa, pc, rfl⟩ := own_any hown
    have hx3 := Ext.of_alloc w2 (.cells #[.int .i64 0, .slice none 0 0, .slice none 0 0, .bool false, .bool false, .int .i64 0, .int .u32 0, .slice none 0 0, .bool false, .slice pa S.l.length pc, .int .u64 (S.num : Int), .bool false] 37)
    have hb3 := heap_alloc_new w2 (.cells #[.int .i64 0, .slice none 0 0, .slice none 0 0, .bool false, .bool false, .int .i64 0, .int .u32 0, .slice none 0 0, .bool false, .slice pa S.l.length pc, .int .u64 (S.num : Int), .bool false] 37)
    have hs3 : (w2.alloc (.cells #[.int .i64 0, .slice none 0 0, .slice none 0 0, .bool false, .bool false, .int .i64 0, .int .u32 0, .slice none 0 0, .bool false, .slice pa S.l.length pc, .int .u64 (S.num : Int), .bool false] 37)).heap.size = w2.heap.size + 1 := World.size_alloc _ _
    obtain ⟨w3, hw3⟩ : ∃ w3, w3 = w2.alloc (.cells #[.int .i64 0, .slice none 0 0, .slice none 0 0, .bool false, .bool false, .int .i64 0, .int .u32 0, .slice none 0 0, .bool false, .slice pa S.l.length pc, .int .u64 (S.num : Int), .bool false] 37) := ⟨_, rfl⟩
    rw [← hw3] at hx3 hb3 hs3
    obtain ⟨hsr, hpk, hnm, hln⟩ := hL.facts
    have HL := Lib.hid hL
    have HI := Lib.hid hI
    have HO3 := Lib.hid (hx3.keptOwn hown)
    have HK3 := Lib.hid (BoxK.of_blk (v := .slice pa S.l.length pc) (num := S.num) hb3)
    have HX3 := Lib.hid hx3
    have HPK := Lib.hid hpk
    have HSR := Lib.hid hsr
    have hsn : S.num ≤ 31 := hI.num
    have hsl : S.l.length ≤ 1984 := hI.len
    have HW3 := Lib.hid hw3
    clear hL hI hown hx3 hb3 hs3 hw3 hsr hpk hnm hln
    have hx4 := Ext.of_alloc w3 (.cells #[.int .u8 (kb.toNat : Int)] 5)
    have hb4 : Bs (w3.alloc (.cells #[.int .u8 (kb.toNat : Int)] 5)) (.slice (some ⟨w3.heap.size, 0, none⟩) 1 1) [kb] := Reads.one w3 (byteVal kb) 5 rfl
    unfold s6v gz
    go_upto_region 6 with fail
    rw [show w2.alloc (.cells #[.int .i64 0, .slice none 0 0, .slice none 0 0, .bool false, .bool false, .int .i64 0, .int .u32 0, .slice none 0 0, .bool false, .slice pa S.l.length pc, .int .u64 (S.num : Int), .bool false] 37) = w3 from HW3.out.symm]
    clear HW3
    go_wp2_with fail
    have hrc := record_any _ [kb] (min sz 4000) _ hb4
    unfold MadeB at hrc
    have hrl : (W5.record [kb] (min sz 4000)).length ≤ 4000 := by rw [W5.record_len]; unfold W5.recN; omega
    generalize W5.record [kb] (min sz 4000) = v at *
    refine hrc.mono ?_
    clear hrc hb4
    rintro e w5 ⟨vv, rfl, hown5, hx5⟩
    obtain ⟨va, vc, rfl⟩ := own_any hown5
    have hs5 := hx4.size
    have HX5 := Lib.hid (hx4.trans hx5)
    have HV5 := Lib.hid (ownsRow_base5 hown5 hs5)
    clear hown5 hx4 hx5 hs5
    have hcv := one_string (P := Try.prog) 59 9 5 Try.underlying59 Try.underlying5 Try.underlying9 w5 kb (kb.toNat : Int) rfl
    have hx6 := (Ext.of_alloc w5 (.cells #[.int .u8 (kb.toNat : Int)] 5)).alloc (.cells #[.string ⟨#[kb]⟩, .slice va v.length vc, .bool false, .int .u64 0] 66)
    have hb6 := heap_alloc_new (w5.alloc (.cells #[.int .u8 (kb.toNat : Int)] 5)) (.cells #[.string ⟨#[kb]⟩, .slice va v.length vc, .bool false, .int .u64 0] 66)
    have hs6 : (w5.alloc (.cells #[.int .u8 (kb.toNat : Int)] 5)).heap.size = w5.heap.size + 1 := World.size_alloc _ _
    obtain ⟨w6, hw6⟩ : ∃ w6, w6 = (w5.alloc (.cells #[.int .u8 (kb.toNat : Int)] 5)).alloc (.cells #[.string ⟨#[kb]⟩, .slice va v.length vc, .bool false, .int .u64 0] 66) := ⟨_, rfl⟩
    rw [← hw6] at hx6 hb6
    rw [hs6] at hb6
    have HW6 := Lib.hid hw6
    have HX6 := Lib.hid hx6
    have HB6 := Lib.hid hb6
    have HS6 := Lib.hid hs6
    clear hw6 hx6 hb6 hs6
    go_upto_region 8 with fail
    rw [show (w5.alloc (.cells #[.int .u8 (kb.toNat : Int)] 5)).alloc (.cells #[.string ⟨#[kb]⟩, .slice va v.length vc, .bool false, .int .u64 0] 66) = w6 from HW6.out.symm]
    try rw [HS6.out]
    clear HW6 hcv
    have hsv : s6v gz (.slice pa S.l.length pc) S.num false = .agg #[.int .i64 0, .slice none 0 0, .slice none 0 0, .bool false, .bool false, .int .i64 0, .int .u32 0, .slice none 0 0, .bool false, .slice pa S.l.length pc, .int .u64 (S.num : Int), .bool false] := rfl
    have hx36 := HX5.out.trans HX6.out
    have hgt := refGet6 w6 gz (.slice pa S.l.length pc) S.num false S.l [kb] (RPs.of_own (hx36.keptOwn HO3.out)) (by omega)
    rw [hsv] at hgt
    unfold gotV strV at hgt
    have HGT := Lib.hid hgt
    have hk6 := HK3.out.ext hx36
    obtain ⟨q0, q1, q2, q3, q4, q5, q6, q7, q8, q9, q10, q11⟩ := hk6
    have e0 : w6.cell? ⟨w5.heap.size + 1, 0, none⟩ = some (.string ⟨#[kb]⟩) := (blk_cell HB6.out 0).trans rfl
    clear hgt hsv
    go_wp2_with fail
    refine HGT.out.mono ?_
    clear HGT
    rintro e w7 ⟨rfl, hx7⟩
    have hb7 := (Below.block (B := w6.heap.size) hx7 (w5.heap.size + 1) (blk_lt HB6.out)).trans HB6.out
    have f3 : w7.cell? ⟨w5.heap.size + 1, 3, none⟩ = some (.int .u64 0) := (blk_cell hb7 3).trans rfl
    have g3 := blk_free hb7 3
    have HVER : Hid (S6.verOf S.l [kb] = ((S6.look S.l [kb]).map (fun p => p.ver)).getD 0) := rfl
    rw [← HVER.out]
    generalize hvn : S6.verOf S.l [kb] = vn at *
    have HVN := Lib.hid hvn
    have hb8 : (w7.setCell ⟨w5.heap.size + 1, 3, none⟩ (.int .u64 (vn : Int))).heap[w5.heap.size + 1]? = some (.cells #[.string ⟨#[kb]⟩, .slice va v.length vc, .bool false, .int .u64 (vn : Int)] 66 (0, 0)) := blk_set hb7 3 (.int .u64 (vn : Int))
    have hm8 := Mod.setCell (F := fun k => k = w5.heap.size + 1) w7 ⟨w5.heap.size + 1, 3, none⟩ (.int .u64 (vn : Int)) rfl
    have hx38 : Ext w5 (w7.setCell ⟨w5.heap.size + 1, 3, none⟩ (.int .u64 (vn : Int))) := Mod.ext (HX6.out.trans hx7) hm8 (fun z hz => by omega)
    obtain ⟨w8, hw8⟩ : ∃ w8, w8 = w7.setCell ⟨w5.heap.size + 1, 3, none⟩ (.int .u64 (vn : Int)) := ⟨_, rfl⟩
    rw [← hw8] at hb8 hx38
    have HW8 := Lib.hid hw8
    have HB8 := Lib.hid hb8
    have HX8 := Lib.hid hx38
    clear hw8 hb8 hm8 hx38 hb7 HVER hvn q0 q1 q2 q3 q4 q5 q6 q7 q8 q9 q10 q11 e0 HB6 HX6 hx7 hx36 HS6
    go_upto_region 9 with fail
    rw [show w7.setCell ⟨w5.heap.size + 1, 3, none⟩ (.int .u64 (vn : Int)) = w8 from HW8.out.symm]
    clear HW8 f3 g3
    generalize w5.heap.size + 1 = bw at *
    have hx38 := HX5.out.trans HX8.out
    obtain ⟨q0, q1, q2, q3, q4, q5, q6, q7, q8, q9, q10, q11⟩ := HK3.out.ext hx38
    have e0 : w8.cell? ⟨bw, 0, none⟩ = some (.string ⟨#[kb]⟩) := (blk_cell HB8.out 0).trans rfl
    have hwr : IntKind.u64.wrap ((S.num : Int) + 1) = ((S.num + 1 : Nat) : Int) := by rw [IntKind.wrap_u64]; omega
    obtain ⟨N1, hN1⟩ : ∃ N1, N1 = S.num + 1 := ⟨_, rfl⟩
    rw [← hN1] at hwr
    have cv : (convert 59 9 (.slice va v.length vc)).run Try.prog w8 = .ok (.string ⟨v.toArray⟩) w8 := (Bs.of_own (HX8.out.keptOwn HV5.out)).toString (P := Try.prog) 59 9 5 Try.underlying59 Try.underlying5 Try.underlying9
    have hx9 := Ext.of_alloc w8 (.cells #[.string ⟨#[kb]⟩, .string ⟨v.toArray⟩, .bool false, .int .u64 0] 52)
    have hy9 : RWs (w8.alloc (.cells #[.string ⟨#[kb]⟩, .string ⟨v.toArray⟩, .bool false, .int .u64 0] 52)) (.slice (some ⟨w8.heap.size, 0, none⟩) 1 1) [⟨[kb], v, false, 0⟩] := ReadsN.row 4 w8 [.string ⟨#[kb]⟩, .string ⟨v.toArray⟩, .bool false, .int .u64 0] 52 1 rfl (by unfold maxLen; omega) (by simp [Value.oneCell'])
    have hap := refApply (w8.alloc (.cells #[.string ⟨#[kb]⟩, .string ⟨v.toArray⟩, .bool false, .int .u64 0] 52)) gz (.slice pa S.l.length pc) S.num N1 false S.l _ [⟨[kb], v, false, 0⟩] (RPs.of_own ((hx38.trans hx9).keptOwn HO3.out)) (fun k hk => Nat.lt_of_lt_of_le (HO3.out.lt k hk).2 (hx38.trans hx9).size) (by omega) HSR.out hy9 (by simp) (by simp [gz, Value.oneCell'])
    have hsv : s6v gz (.slice pa S.l.length pc) S.num false = .agg #[.int .i64 0, .slice none 0 0, .slice none 0 0, .bool false, .bool false, .int .i64 0, .int .u32 0, .slice none 0 0, .bool false, .slice pa S.l.length pc, .int .u64 (S.num : Int), .bool false] := rfl
    rw [hsv, Nat.max_eq_right (show S.num ≤ N1 by omega)] at hap
    have hpok : ∀ p ∈ S6.apl S.l N1 [⟨[kb], v, false, 0⟩], S6.POk N1 p := S6.apl_pok (fun p hp => (HPK.out p hp).le (by omega)) (fun x hx => by rw [List.mem_singleton] at hx; subst hx; exact ⟨by simp, by simp, hrl⟩) (Nat.le_refl _)
    have hal := S6.apl_len N1 [⟨[kb], v, false, 0⟩] S.l
    have HAP := Lib.hid hap
    have HN1 := Lib.hid hN1
    have HX9 := Lib.hid hx9
    clear hap hy9 hx9 hsv hN1 hx38
    go_wp2_with fail
    refine HAP.out.mono ?_
    clear HAP
    rintro e w10 ⟨pv2, rfl, hP10, hpX10, hx10⟩
    have HPOK := Lib.hid hpok
    have HXA := Lib.hid (HX9.out.trans hx10)
    have hal2 : (S6.apl S.l N1 [⟨[kb], v, false, 0⟩]).length ≤ 2000 := by simp at hal; omega
    have hdef : S6.apl S.l N1 [⟨[kb], v, false, 0⟩] = S6.apl S.l (S.num + 1) [⟨[kb], v, false, S6.verOf S.l [kb]⟩] := by rw [HN1.out]; rfl
    have HDEF := Lib.hid hdef
    generalize S6.apl S.l N1 [⟨[kb], v, false, 0⟩] = L2 at *
    obtain ⟨_, pb, pd, rfl, _⟩ := hP10.shape
    have hx11 := Ext.of_alloc w10 (.cells #[.int .i64 0, .slice none 0 0, .slice none 0 0, .bool false, .bool false, .int .i64 0, .int .u32 0, .slice none 0 0, .bool false, .slice pb L2.length pd, .int .u64 (N1 : Int), .bool false] 37)
    have hb11 := heap_alloc_new w10 (.cells #[.int .i64 0, .slice none 0 0, .slice none 0 0, .bool false, .bool false, .int .i64 0, .int .u32 0, .slice none 0 0, .bool false, .slice pb L2.length pd, .int .u64 (N1 : Int), .bool false] 37)
    obtain ⟨w11, hw11⟩ : ∃ w11, w11 = w10.alloc (.cells #[.int .i64 0, .slice none 0 0, .slice none 0 0, .bool false, .bool false, .int .i64 0, .int .u32 0, .slice none 0 0, .bool false, .slice pb L2.length pd, .int .u64 (N1 : Int), .bool false] 37) := ⟨_, rfl⟩
    rw [← hw11] at hx11 hb11
    have HW11 := Lib.hid hw11
    have hbk := BoxK.of_blk (v := .slice pb L2.length pd) (num := N1) hb11
    have him := refImage w11 gz (.slice pb L2.length pd) N1 false L2 (hP10.ext hx11) (by omega) (by have := HN1.out; omega) (fun p hp => by have h1 := (HPOK.out p hp).key; have h2 := (HPOK.out p hp).val; have h3 := (HPOK.out p hp).ver; have := HN1.out; exact ⟨by omega, by omega, by omega⟩)
    have hsn : s6v gz (.slice pb L2.length pd) N1 false = .agg #[.int .i64 0, .slice none 0 0, .slice none 0 0, .bool false, .bool false, .int .i64 0, .int .u32 0, .slice none 0 0, .bool false, .slice pb L2.length pd, .int .u64 (N1 : Int), .bool false] := rfl
    rw [hsn] at him
    have HIM := Lib.hid him
    have HX11 := Lib.hid (HXA.out.trans hx11)
    have HBK := Lib.hid hbk
    clear hdef hpok hal hP10 hpX10 hx10 hx11 hb11 hw11 hbk him hsn q0 q1 q2 q3 q4 q5 q6 q7 q8 q9 q10 q11 e0 hwr cv HXA HX9
    unfold s6v gz
    go_upto_region 11 with fail
    rw [show w10.alloc (.cells #[.int .i64 0, .slice none 0 0, .slice none 0 0, .bool false, .bool false, .int .i64 0, .int .u32 0, .slice none 0 0, .bool false, .slice pb L2.length pd, .int .u64 (N1 : Int), .bool false] 37) = w11 from HW11.out.symm]
    clear HW11
    obtain ⟨q0, q1, q2, q3, q4, q5, q6, q7, q8, q9, q10, q11⟩ := HBK.out
    go_wp2_with fail
    refine HIM.out.mono ?_
    clear HIM
    rintro e w12 ⟨iv, rfl, hown12, hx12⟩
    obtain ⟨ia, ic, rfl⟩ := own_any hown12
    have hil : ∀ b ∈ S6.image L2 N1, b.length ≤ 8192 := S6.image_len HPOK.out (by have := HN1.out; unfold S6.lastN; omega)
    have hus : W5.used (S6.image L2 N1) = S6.needsL L2 := S6.used_image (by have := HN1.out; unfold S6.lastN; omega)
    have hill : (S6.image L2 N1).length = L2.length + 1 := by unfold S6.image; simp
    generalize S6.image L2 N1 = R at *
    have hrow := ReadsN.of_own hown12 (fun u hu => by obtain ⟨b, _, rfl⟩ := List.mem_map.1 hu; rfl)
    have hstr : ∀ i (h : i < R.length), ∃ b off, ia = some ⟨b, off, none⟩ ∧ w12.cell? ⟨b, off + i, none⟩ = some (.string ⟨R[i].toArray⟩) := fun i hi => by
      obtain ⟨a9, c9, h1, h2, h3, h4, h5, h6, h7⟩ := hrow
      obtain ⟨rfl, _, rfl⟩ := Value.slice.inj h1
      rcases h7 with h7 | ⟨b, off, rfl, hc⟩
      · omega
      · exact ⟨b, off, rfl, hc i _ (by unfold strs; rw [List.getElem?_map, List.getElem?_eq_getElem hi]; rfl)⟩
    have HSTR := Lib.hid hstr
    have HIL := Lib.hid hil
    have HUS := Lib.hid hus
    have HX12 := Lib.hid (HX11.out.trans hx12)
    have hRi : (R.length : Int) ≤ 2001 := by omega
    clear hrow hstr hil hus hown12 hx12 q0 q1 q2 q3 q4 q5 q6 q7 q8 q9 q10 q11 HBK HX11 HPOK
    go_wp2_with fail
    go_loopw [16, 18] (fun nv jv wr => ∃ i : Nat, i ≤ R.length ∧ jv = .int .i64 (i : Int) ∧ nv = .int .i64 ((W5.usedTo R i : Nat) : Int) ∧ W5.usedTo R i ≤ 17 * i ∧ Hid (Ext w12 wr)) (fun _ jv _ => R.length - (intOf jv).toNat)
    case atStart => exact ⟨0, Nat.zero_le _, rfl, rfl, Nat.le_refl _, Ext.refl _⟩
    case round =>
      obtain ⟨i, hi, rfl, rfl, hub, hX⟩ := hrel
      by_cases hlt : i < R.length
      · have hlti : (i : Int) < (R.length : Int) := by omega
        obtain ⟨b, off, rfl, c0⟩ := HSTR.out i hlt
        replace c0 := hX.out.cell c0
        have hut := W5.usedTo_step R i hlt
        have hbl := HIL.out _ (List.getElem_mem hlt)
        generalize R[i] = r at *
        have hnd : W5.need r.length ≤ 17 := by unfold W5.need; split <;> omega
        have hsz : (⟨r.toArray⟩ : ByteArray).size = r.length := by show r.toArray.size = _; rw [List.size_toArray]
        have hne : ∀ U, Calls Try.prog 23 #[.int .i64 (r.length : Int)] U fun e w' => e = .returned (.int .i64 (W5.need r.length : Int)) ∧ U = w' := fun U => by rw [← W5.need_nat]; exact need_any (r.length : Int) U (by omega) (by omega)
        have HNE := Lib.hid hne
        have HUT := Lib.hid hut
        generalize W5.usedTo R i = u at *
        generalize W5.need r.length = nd at *
        generalize (⟨r.toArray⟩ : ByteArray) = ra at *
        have hwr : IntKind.i64.wrap ((u : Int) + (nd : Int)) = ((u + nd : Nat) : Int) := by rw [IntKind.wrap_i64]; omega
        clear hut hne
        go_wp2_with fail
        refine (HNE.out _).mono ?_
        clear HNE
        rintro e wN ⟨rfl, rfl⟩
        go_wp2_with fail
        exact ⟨⟨i + 1, by omega, by go_num, by rw [HUT.out]; simp, by rw [HUT.out]; omega, hX⟩, by simp [intOf]; omega⟩
      · obtain rfl : i = R.length := by omega
        have hge : ¬ ((R.length : Nat) : Int) < (R.length : Int) := by omega
        have hue : W5.usedTo R R.length = S6.needsL L2 := by unfold W5.usedTo; rw [List.take_length]; exact HUS.out
        rw [hue] at hub
        rw [hue]
        clear hue
        have hxr := HX12.out.trans hX.out
        have hx2r := HX3.out.trans (HX5.out.trans (HX8.out.trans hxr))
        have hbr := (Below.block (B := w8.heap.size) hxr bw (blk_lt HB8.out)).trans HB8.out
        have e0 : wr.cell? ⟨bw, 0, none⟩ = some (.string ⟨#[kb]⟩) := (blk_cell hbr 0).trans rfl
        have e1 : wr.cell? ⟨bw, 1, none⟩ = some (.slice va v.length vc) := (blk_cell hbr 1).trans rfl
        have e2 : wr.cell? ⟨bw, 2, none⟩ = some (.bool false) := (blk_cell hbr 2).trans rfl
        have e3 : wr.cell? ⟨bw, 3, none⟩ = some (.int .u64 (vn : Int)) := (blk_cell hbr 3).trans rfl
        have hbv : Bs wr (.slice va v.length vc) v := (Bs.of_own (HX8.out.keptOwn HV5.out)).ext hxr
        have h23 := HX3.out.size
        have h5r := (HX8.out.trans hxr).size
        have hws : WrsIn (wr.alloc (.cells #[.string ⟨#[kb]⟩, .slice va v.length vc, .bool false, .int .u64 (vn : Int)] 66)) (New (New (fun k => k < w1.heap.size ∨ (Value.slice pa S.l.length pc).ownBlock = some k) w2 wr) wr (wr.alloc (.cells #[.string ⟨#[kb]⟩, .slice va v.length vc, .bool false, .int .u64 (vn : Int)] 66))) (.slice (some ⟨wr.heap.size, 0, none⟩) 1 1) [⟨[kb], v, false, vn⟩] := WrsIn.one wr _ ⟨[kb], v, false, vn⟩ _ hbv (fun k hk => .inr (by have := HV5.out.lt k hk; omega))
        have hcm := commit_any ((HL.out.all hx2r).all (Ext.of_alloc wr (.cells #[.string ⟨#[kb]⟩, .slice va v.length vc, .bool false, .int .u64 (vn : Int)] 66))) _ _ hws HI.out.wait
        have hfl := S6.full_out HI.out HL.out.held.okd (by omega) [kb] (by simp) (by simp) v hrl
        rw [← HDEF.out, HVN.out] at hfl
        obtain ⟨⟨T, nn, cc⟩, hR⟩ : ∃ R, R = S6.commit S [⟨[kb], v, false, vn⟩] := ⟨_, rfl⟩
        rw [← hR] at hcm hfl
        replace hfl : (S6.areaS S < S6.needsL L2 → cc = 6) ∧ (¬ S6.areaS S < S6.needsL L2 → cc = 0) := hfl
        have hai : W5.areaI n = (S6.areaS S : Int) := by unfold S6.areaS W5.area; rw [HI.out.nn, Int.toNat_of_nonneg (by unfold W5.areaI; split <;> omega)]
        have har := fun U => area_any n U (by omega) (by omega)
        rw [hai] at har
        have HAR := Lib.hid har
        have HCM := Lib.hid hcm
        have HFL := Lib.hid hfl
        clear hbr hbv hws hcm hfl hR hai har hxr hx2r hX HDEF HVN HB8 h23 h5r
        go_wp2_with fail
        refine HCM.out.mono ?_
        clear HCM
        rintro e w14 ⟨rfl, hL14, -⟩
        replace hL14 : Stod w1 w14 _ p q T := hL14
        have HX14 := Lib.hid (HX1.out.trans hL14.toExt)
        clear hL14 e0 e1 e2 e3
        go_wp2_with fail
        refine (HAR.out _).mono ?_
        clear HAR
        rintro e wA ⟨rfl, rfl⟩
        generalize S6.areaS S = ar at *
        generalize S6.needsL L2 = nl at *
        by_cases hla : ar < nl
        · obtain rfl := HFL.out.1 hla
          have hli : (ar : Int) < (nl : Int) := by omega
          go_wp2
          go_ret
          exact ⟨rfl, HX14.out⟩
        · obtain rfl := HFL.out.2 hla
          have hli : ¬ (ar : Int) < (nl : Int) := by omega
          go_wp2
          go_ret
          exact ⟨rfl, HX14.out⟩
end Go.Proofs.Ytnjfioikpajhlaa
