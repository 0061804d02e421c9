import Derived.Test.YtnjfioikpajhlaaMSt5
import Derived.Deep.QuietTactic
import Derived.BigQuiet
/- StoreVersions, the walk. (Printed by tools/mkwversions.py.) -/
namespace Go.Proofs.Ytnjfioikpajhlaa
open Go.RowKit Go.Shelf

theorem S6.named_take7 (ws : List S6.Wr) (k : S6.Key) (i : Nat) (h : i < ws.length) : S6.named (ws.take (i + 1)) k = (S6.named (ws.take i) k || decide (ws[i].key = k)) := by
  rw [List.take_succ_eq_append_getElem h, S6.named_snoc]
set_option maxRecDepth 100000 in
set_option maxHeartbeats 6400000 in
theorem walk_storeVersions (sv : Value) (l : List Act6) (w : World) (hs : Acts6In w sv l) :
    Calls Try.prog 7 #[sv] w fun e w' => e = .returned (.bool true) ∧ Ext w w' := by
  obtain ⟨a, cap, rfl, hll⟩ := hs.shape
  have HS := Lib.hid hs
  clear hs
  go_enter Try.func7, Try.ntmps7
  go_wp2_with fail
  refine (awake6 w).mono ?_
  rintro e w1 ⟨rfl, hx1⟩
  have hb := begun6 40 _ [] w1 (Acts6In.nil w1) (by simp) (by decide) (by decide)
  have HB := Lib.hid hb
  have HX1 := Lib.hid hx1
  clear hb hx1
  go_wp2_with fail
  refine HB.out.mono ?_
  clear HB
  rintro e w2 ⟨p, q, S, pv, rfl, hL, hI, hown⟩
  obtain ⟨pa, pc, rfl⟩ := own_any hown
  have hLx := (hL.less (X' := fun k => k < w1.heap.size) (fun k hk => .inl hk) (fun k hk => hk)).after (Ext.of_alloc w2 (.cells #[.int .i64 0, .slice none 0 0, .slice none 0 0, .bool false, .bool false, .int .i64 0, .int .u32 0, .slice none 0 0, .bool false, .slice pa S.l.length pc, .int .u64 (S.num : Int), .bool false] 37))
  have HL := Lib.hid hLx
  have HI := Lib.hid hI
  clear hL hI hown hLx
  by_cases hbad : 30 < l.length
  · have hbi : (30 : Int) < (l.length : Int) := by omega
    clear hbad HS
    unfold s6v gz
    go_wp2_with fail
    go_ret
    exact ⟨by simp, HX1.out.trans HL.out.toExt⟩
  · have hbi : ¬ (30 : Int) < (l.length : Int) := by omega
    have hli : (l.length : Int) ≤ 30 := by omega
    unfold s6v gz
    go_wp2_with fail
    go_loopw [7, 8] (fun mv iv wr => ∃ (i : Nat) (S : S6.St) (most : Nat), i ≤ l.length ∧ iv = .int .i64 (i : Int) ∧ mv = .int .u64 (most : Int) ∧ most ≤ S.num ∧ Hid (Stod w1 wr (fun k => k < w1.heap.size) p q S) ∧ Hid (S6.SInv S 40 (31 + i))) (fun _ iv _ => l.length - (intOf iv).toNat)
    case atStart => exact ⟨0, S, 0, Nat.zero_le _, rfl, rfl, Nat.zero_le _, HL, HI⟩
    case round =>
      clear HL HI
      obtain ⟨i, S, most, hi, rfl, rfl, hmo, hL, hI⟩ := hrel
      by_cases hlt : i < l.length
      · have hlti : (i : Int) < (l.length : Int) := by omega
        obtain ⟨b, off, rfl, hact⟩ := HS.out.at i hlt
        generalize l[i] = x at *
        obtain ⟨kind, xn, puts, keep⟩ := x
        obtain ⟨uv, kv, g0, -, g2, -, hpu, -, wf0, -⟩ := hact.ext (HX1.out.trans hL.out.toExt)
        simp only at g0 g2 hpu wf0
        clear hact
        by_cases k0 : kind = 0
        · subst k0
          obtain ⟨hpl, ua, uc, rfl, -⟩ := hpu.shape
          obtain ⟨hsr, hpk, hnm, hln⟩ := hL.out.facts
          have HKN := Lib.hid (known_any hL.out)
          have HPU := Lib.hid hpu
          have HPK := Lib.hid hpk
          have HNM := Lib.hid hnm
          have HLN := Lib.hid hln
          clear hpu hsr hpk hnm hln wf0
          go_wp2_with fail
          refine HKN.out.mono ?_
          clear HKN
          rintro e w4 ⟨v4, rfl, hown4, hx4⟩
          obtain ⟨pa, pc, rfl⟩ := own_any hown4
          have hx5 := Ext.of_alloc w4 (.cells #[.int .i64 0, .slice none 0 0, .slice none 0 0, .bool false, .bool false, .int .i64 0, .int .u32 0, .slice none 0 0, .bool false, .slice pa S.l.length pc, .int .u64 (S.num : Int), .bool false] 37)
          have hb5 := heap_alloc_new w4 (.cells #[.int .i64 0, .slice none 0 0, .slice none 0 0, .bool false, .bool false, .int .i64 0, .int .u32 0, .slice none 0 0, .bool false, .slice pa S.l.length pc, .int .u64 (S.num : Int), .bool false] 37)
          have hs5 : (w4.alloc (.cells #[.int .i64 0, .slice none 0 0, .slice none 0 0, .bool false, .bool false, .int .i64 0, .int .u32 0, .slice none 0 0, .bool false, .slice pa S.l.length pc, .int .u64 (S.num : Int), .bool false] 37)).heap.size = w4.heap.size + 1 := World.size_alloc _ _
          have hsv : s6v gz (.slice pa S.l.length pc) S.num false = .agg #[.int .i64 0, .slice none 0 0, .slice none 0 0, .bool false, .bool false, .int .i64 0, .int .u32 0, .slice none 0 0, .bool false, .slice pa S.l.length pc, .int .u64 (S.num : Int), .bool false] := rfl
          obtain ⟨w5, hw5⟩ : ∃ w5, w5 = w4.alloc (.cells #[.int .i64 0, .slice none 0 0, .slice none 0 0, .bool false, .bool false, .int .i64 0, .int .u32 0, .slice none 0 0, .bool false, .slice pa S.l.length pc, .int .u64 (S.num : Int), .bool false] 37) := ⟨_, rfl⟩
          rw [← hw5] at hx5 hb5 hs5
          have hk5 := BoxK.of_blk (v := .slice pa S.l.length pc) (num := S.num) hb5
          have hwr := fun (W : World) (hW : Ext w5 W) => writes6_any W gz (.slice pa S.l.length pc) S.num false S.l _ puts (RPs.of_own ((hx5.trans hW).keptOwn hown4)) (by have := HLN.out; omega) (fun k hk => Nat.lt_of_lt_of_le (hown4.lt k hk).2 (hx5.trans hW).size) (fun p hp => by have := (HPK.out p hp).ver; have h2 := HNM.out; unfold S6.lastN at h2; omega) (HPU.out.ext ((hx4.trans hx5).trans hW)) (by simp [gz, Value.oneCell'])
          rw [hsv] at hwr
          have HWR := Lib.hid hwr
          have HBX := Lib.hid (fun W (hW : Ext w5 W) => hk5.ext hW)
          have HL5 := Lib.hid (hL.out.all (hx4.trans hx5))
          have HO5 := Lib.hid (hx5.keptOwn hown4)
          have HS5 := Lib.hid hs5
          have HX45 := Lib.hid (hx4.trans hx5)
          have hs4 := hx4.size
          replace g2 := (hx4.trans hx5).cell g2
          clear hwr hown4 hb5 hs5 HPK HNM HPU hx5 hx4 hL g0
          unfold s6v gz
          go_upto_region 12 with fail
          try rw [show (w4.alloc (.cells #[.int .i64 0, .slice none 0 0, .slice none 0 0, .bool false, .bool false, .int .i64 0, .int .u32 0, .slice none 0 0, .bool false, .slice pa S.l.length pc, .int .u64 (S.num : Int), .bool false] 37)) = w5 from hw5.symm]
          clear hw5 hsv
          have hHeld := Ext.of_drew w5
          refine wp_region_C (fun w' => Ext w5 w') 6 (by kernel_rfl) ?_
          (refine wpAnyC_take [6] (i := 0) (oi := ⟨some 55, _, _, _, _, _⟩) (v := ?_) rfl (by kernel_rfl) (by kernel_rfl) (by kernel_rfl) (by kernel_rfl) (fun _ _ _ h => h) (Or.inl ⟨by rfl, ?_⟩) hHeld ?_; rotate_left; (focus (intro w hSw; ((obtain ⟨qa, qb, qc, qd, qe, qf, qg, qh, qi, qj, qk, ql⟩ := HBX.out _ hSw)); go_simp; first | done | with_reducible rfl)); try simp only [Act.put, List.setIfInBounds_toArray, List.set_cons_zero, List.set_cons_succ])
          (refine wpAnyC_take [3, 4, 5, 6] (i := 1) (oi := ⟨some 56, _, _, _, _, _⟩) (v := ?_) rfl (by kernel_rfl) (by kernel_rfl) (by kernel_rfl) (by kernel_rfl) (fun _ _ _ h => h) (Or.inl ⟨by rfl, ?_⟩) hHeld ?_; rotate_left; (focus (intro w hSw; (skip); go_simp; first | done | with_reducible rfl)); try simp only [Act.put, List.setIfInBounds_toArray, List.set_cons_zero, List.set_cons_succ])
          (refine wpAnyC_take [3, 4, 5, 6] (i := 2) (oi := ⟨some 57, _, _, _, _, _⟩) (v := ?_) rfl (by kernel_rfl) (by kernel_rfl) (by kernel_rfl) (by kernel_rfl) (fun _ _ _ h => h) (Or.inl ⟨by rfl, ?_⟩) hHeld ?_; rotate_left; (focus (intro w hSw; (skip); go_simp; first | done | with_reducible rfl)); try simp only [Act.put, List.setIfInBounds_toArray, List.set_cons_zero, List.set_cons_succ])
          (refine wpAnyC_take [4, 5, 6] (i := 3) (oi := ⟨some 58, _, _, _, _, _⟩) (v := ?_) rfl (by kernel_rfl) (by kernel_rfl) (by kernel_rfl) (by kernel_rfl) (fun _ _ _ h => h) (Or.inl ⟨by rfl, ?_⟩) hHeld ?_; rotate_left; (focus (intro w hSw; (skip); go_simp; first | done | with_reducible rfl)); try simp only [Act.put, List.setIfInBounds_toArray, List.set_cons_zero, List.set_cons_succ])
          (refine wpAnyC_take [5, 6] (i := 4) (oi := ⟨some 59, _, _, _, _, _⟩) (v := ?_) rfl (by kernel_rfl) (by kernel_rfl) (by kernel_rfl) (by kernel_rfl) (fun _ _ _ h => h) (Or.inl ⟨by rfl, ?_⟩) hHeld ?_; rotate_left; (focus (intro w hSw; (skip); go_simp; first | done | with_reducible rfl)); try simp only [Act.put, List.setIfInBounds_toArray, List.set_cons_zero, List.set_cons_succ])
          (refine wpAnyC_take [6] (i := 5) (oi := ⟨some 60, _, _, _, _, _⟩) (v := ?_) rfl (by kernel_rfl) (by kernel_rfl) (by kernel_rfl) (by kernel_rfl) (fun _ _ _ h => h) (Or.inl ⟨by rfl, ?_⟩) hHeld ?_; rotate_left; (focus (intro w hSw; ((have q := hSw.cell g2)); go_simp; first | done | with_reducible rfl)); try simp only [Act.put, List.setIfInBounds_toArray, List.set_cons_zero, List.set_cons_succ])
          refine wpAnyC_c (oi := ⟨some 61, _, _, _, _, _⟩) rfl (by kernel_rfl) (fun K hK => ?_)
          rw [if_pos (by rfl)]
          go_simp
          refine (HWR.out _ hHeld).mono ?_
          rintro e w6 ⟨xv, yv, us, rfl, hW6, hY6, hx6⟩
          obtain ⟨ya, yc, rfl⟩ := own_any hY6
          refine hK.out _ _ ?_
          clear hK K
          try simp only [Act.put, List.setIfInBounds_toArray, List.set_cons_zero, List.set_cons_succ]
          (refine wpAny_take (i := 7) (oi := ⟨some 54, _, _, _, _, _⟩) (v := ?_) rfl (by kernel_rfl) (by kernel_rfl) (by kernel_rfl) (fun _ _ _ h => h) (Or.inl ⟨by rfl, ?_⟩) ?_; rotate_left; (focus (intro w; go_simp; first | done | with_reducible rfl)); try simp only [Act.put, List.setIfInBounds_toArray, List.set_cons_zero, List.set_cons_succ])
          (refine wpAny_take (i := 8) (oi := ⟨some 62, _, _, _, _, _⟩) (v := ?_) rfl (by kernel_rfl) (by kernel_rfl) (by kernel_rfl) (fun _ _ _ h => h) (Or.inl ⟨by rfl, ?_⟩) ?_; rotate_left; (focus (intro w; go_simp; first | done | with_reducible rfl)); try simp only [Act.put, List.setIfInBounds_toArray, List.set_cons_zero, List.set_cons_succ])
          (refine wpAny_take (i := 9) (oi := ⟨some 63, _, _, _, _, _⟩) (v := ?_) rfl (by kernel_rfl) (by kernel_rfl) (by kernel_rfl) (fun _ _ _ h => h) (Or.inl ⟨by rfl, ?_⟩) ?_; rotate_left; (focus (intro w; go_simp; first | done | with_reducible rfl)); try simp only [Act.put, List.setIfInBounds_toArray, List.set_cons_zero, List.set_cons_succ])
          (refine wpAny_take (i := 10) (oi := ⟨some 10, _, _, _, _, _⟩) (v := ?_) rfl (by kernel_rfl) (by kernel_rfl) (by kernel_rfl) (fun _ _ _ h => h) (Or.inl ⟨by rfl, ?_⟩) ?_; rotate_left; (focus (intro w; go_simp; first | done | with_reducible rfl)); try simp only [Act.put, List.setIfInBounds_toArray, List.set_cons_zero, List.set_cons_succ])
          (refine wpAny_take (i := 11) (oi := ⟨some 11, _, _, _, _, _⟩) (v := ?_) rfl (by kernel_rfl) (by kernel_rfl) (by kernel_rfl) (fun _ _ _ h => h) (Or.inl ⟨by rfl, ?_⟩) ?_; rotate_left; (focus (intro w; go_simp; first | done | with_reducible rfl)); try simp only [Act.put, List.setIfInBounds_toArray, List.set_cons_zero, List.set_cons_succ])
          refine wpAny_done (by kernel_rfl) ?_ _
          have hwl := S6.wsOf_len S.l puts
          generalize hws : S6.wsOf S.l puts = ws at *
          have hwl2 : ws.length ≤ 70 := by omega
          clear hwl
          have hx56 := hHeld.trans hx6
          have hY6b := ownsRow_base5 hY6 hHeld.size
          have hwrs := hW6.wrs (X := New (New (fun k => k < w1.heap.size) wr w5) w5 w6) (fun k h1 h2 => .inr ⟨Nat.le_trans hHeld.size h1, h2⟩)
          have hcm := commit_any (HL5.out.all hx56) xv _ hwrs hI.out.wait
          have hL6ok := HL5.out.held.okd
          obtain ⟨⟨T, nn, cc⟩, hR⟩ : ∃ R, R = S6.commit S ws := ⟨_, rfl⟩
          have hi6 := hI.out.commit hL6ok (by omega) ws
          obtain ⟨hv1, hv2⟩ := S6.commit_vers hI.out hL6ok (by omega) ws hR
          rw [← hR] at hcm hi6
          replace hi6 : S6.SInv T 40 (31 + i + 1) := hi6
          have HI6 := Lib.hid hi6
          have HV2 := Lib.hid hv2
          have HCM := Lib.hid hcm
          have HY6 := Lib.hid hY6b
          have HX6 := Lib.hid hx56
          clear hws hcm hwrs hW6 hY6 hx6 hHeld hx56 hL6ok hi6 hv2 hR hI HWR HBX hY6b g2
          go_wp2_with fail
          refine HCM.out.mono ?_
          clear HCM
          rintro e w7 ⟨rfl, hL7, hK7⟩
          replace hL7 : Stod w1 w7 _ p q T := hL7
          have hkn := known_any hL7
          have HKN := Lib.hid hkn
          have HL7 := Lib.hid hL7
          have HK7 := Lib.hid hK7
          clear hkn hL7 hK7
          go_wp2_with fail
          refine HKN.out.mono ?_
          clear HKN
          rintro e w8 ⟨nv, rfl, hown8, hx8⟩
          obtain ⟨na, nc, rfl⟩ := own_any hown8
          have hm8 : BoxK w8 w4.heap.size (.slice pa S.l.length pc) S.num := ((hk5.ext HX6.out).keeps HK7.out (.inl (.inr ⟨hs4, by have := HS5.out; omega⟩))).ext hx8
          have hp8 : RPs w8 (.slice pa S.l.length pc) S.l := RPs.of_own (hx8.keptOwn (Keeps.own HK7.out (HX6.out.keptOwn HO5.out) (fun k hk => .inl (.inr (HO5.out.lt k hk)))))
          have hy8 : RWs w8 (.slice ya ws.length yc) ws := RWs.of_own (hx8.keptOwn (Keeps.own HK7.out HY6.out (fun k hk => .inr (HY6.out.lt k hk))))
          have hn8 : RPs w8 (.slice na T.l.length nc) T.l := RPs.of_own hown8
          have hf7 := HL7.out.facts.2.2.2
          have hx9 := Ext.of_alloc w8 (.cells #[.int .i64 0, .slice none 0 0, .slice none 0 0, .bool false, .bool false, .int .i64 0, .int .u32 0, .slice none 0 0, .bool false, .slice na T.l.length nc, .int .u64 (T.num : Int), .bool false] 37)
          have hb9 := heap_alloc_new w8 (.cells #[.int .i64 0, .slice none 0 0, .slice none 0 0, .bool false, .bool false, .int .i64 0, .int .u32 0, .slice none 0 0, .bool false, .slice na T.l.length nc, .int .u64 (T.num : Int), .bool false] 37)
          have hsm : s6v gz (.slice pa S.l.length pc) S.num false = .agg #[.int .i64 0, .slice none 0 0, .slice none 0 0, .bool false, .bool false, .int .i64 0, .int .u32 0, .slice none 0 0, .bool false, .slice pa S.l.length pc, .int .u64 (S.num : Int), .bool false] := rfl
          obtain ⟨w9, hw9⟩ : ∃ w9, w9 = w8.alloc (.cells #[.int .i64 0, .slice none 0 0, .slice none 0 0, .bool false, .bool false, .int .i64 0, .int .u32 0, .slice none 0 0, .bool false, .slice na T.l.length nc, .int .u64 (T.num : Int), .bool false] 37) := ⟨_, rfl⟩
          rw [← hw9] at hx9 hb9
          have HL9 := Lib.hid ((HL7.out.less (X' := fun k => k < w1.heap.size) (fun k hk => .inl (.inl hk)) (fun k hk => hk)).after (hx8.trans hx9))
          have hn9 := BoxK.of_blk (v := .slice na T.l.length nc) (num := T.num) hb9
          have hgt := fun (W : World) (key : List UInt8) (hW : Ext w9 W) => refGet6 W gz _ S.num false _ key (hp8.ext (hx9.trans hW)) (by have := HLN.out; omega)
          rw [hsm] at hgt
          unfold strV at hgt
          have HGT := Lib.hid hgt
          have HM9 := Lib.hid (hm8.ext hx9)
          obtain ⟨_, _, _, hv9, _, hpc⟩ := (hn8.ext hx9).shape
          obtain ⟨rfl, _, rfl⟩ := Value.slice.inj hv9
          obtain ⟨_, _, _, hv8, hyc⟩ := (hy8.ext hx9).shape
          obtain ⟨rfl, _, rfl⟩ := Value.slice.inj hv8
          have HPC := Lib.hid hpc
          have HYC := Lib.hid hyc
          obtain ⟨-, -, -, -, -, -, -, -, -, n9, n10, -⟩ := hn9
          have HLN7 := Lib.hid hf7
          clear hm8 hp8 hy8 hn8 hx9 hb9 hpc hyc hv9 hv8 hgt hsm HL7 HK7 hown8 hx8 HO5 HS5 HX6 HY6 hk5 hs4 HX45 HL5 HLN hf7
          unfold s6v gz
          go_upto_region 15 with fail
          try rw [show (w8.alloc (.cells #[.int .i64 0, .slice none 0 0, .slice none 0 0, .bool false, .bool false, .int .i64 0, .int .u32 0, .slice none 0 0, .bool false, .slice na T.l.length nc, .int .u64 (T.num : Int), .bool false] 37)) = w9 from hw9.symm]
          clear hw9
          generalize w8.heap.size = bn at *
          generalize w4.heap.size = bm at *
          have hTl : (T.l.length : Int) ≤ 1000000 := by have := HLN7.out; omega
          go_wp2_with fail
          go_loopw [15] (fun kv wj => ∃ k : Nat, k ≤ T.l.length ∧ kv = .int .i64 (k : Int) ∧ Hid (Ext w9 wj)) (fun kv _ => T.l.length - (intOf kv).toNat)
          case atStart => exact ⟨0, Nat.zero_le _, rfl, Ext.refl _⟩
          case round =>
            obtain ⟨k, hk, rfl, hX⟩ := hrel
            have n9w := hX.out.cell n9
            have n10w := hX.out.cell n10
            by_cases hltk : k < T.l.length
            · have hltki : (k : Int) < (T.l.length : Int) := by omega
              obtain ⟨pb, po, rfl, p0, p1, p2⟩ := HPC.out k hltk
              replace p0 := hX.out.cell p0
              replace p1 := hX.out.cell p1
              replace p2 := hX.out.cell p2
              unfold strV at p0 p1
              have hv := HV2.out _ (List.getElem_mem hltk)
              generalize T.l[k] = x at *
              have hgx := fun W (hW : Ext w9 W) => HGT.out W x.key hW
              have HVO : Hid (S6.verOf S.l x.key = ((S6.look S.l x.key).map (fun p => p.ver)).getD 0) := rfl
              unfold gotV strV at hgx
              rw [← HVO.out] at hgx
              generalize S6.verOf S.l x.key = vo at *
              clear HVO
              generalize ((S6.look S.l x.key).map (fun p => p.val)).getD [] = vv at hgx
              generalize (S6.look S.l x.key).isSome = vs at hgx
              have HGX := Lib.hid hgx
              obtain ⟨hva, hvb, hvc⟩ := hv
              have HVC := Lib.hid hvc
              clear hgx hvc
              have hxa := Ext.of_alloc wr (.cells #[.string ⟨x.key.toArray⟩, .string ⟨x.val.toArray⟩, .int .u64 (x.ver : Int)] 54)
              have hza := heap_alloc_new wr (.cells #[.string ⟨x.key.toArray⟩, .string ⟨x.val.toArray⟩, .int .u64 (x.ver : Int)] 54)
              obtain ⟨wa, hwa⟩ : ∃ wa, wa = wr.alloc (.cells #[.string ⟨x.key.toArray⟩, .string ⟨x.val.toArray⟩, .int .u64 (x.ver : Int)] 54) := ⟨_, rfl⟩
              rw [← hwa] at hxa hza
              have HXA := Lib.hid (hX.out.trans hxa)
              have HZA := Lib.hid hza
              have HWA := Lib.hid hwa
              clear hxa hza hwa
              go_upto_region 19 with fail
              rw [show wr.alloc (.cells #[.string ⟨x.key.toArray⟩, .string ⟨x.val.toArray⟩, .int .u64 (x.ver : Int)] 54) = wa from HWA.out.symm]
              clear HWA
              generalize wr.heap.size = bx at *
              have z0 : wa.cell? ⟨bx, 0, none⟩ = some (.string ⟨x.key.toArray⟩) := (blk_cell HZA.out 0).trans rfl
              have z2 : wa.cell? ⟨bx, 2, none⟩ = some (.int .u64 (x.ver : Int)) := (blk_cell HZA.out 2).trans rfl
              obtain ⟨q0, q1, q2, q3, q4, q5, q6, q7, q8, q9, q10, q11⟩ := HM9.out.ext HXA.out
              have HG := Lib.hid (HGX.out _ HXA.out)
              clear p0 p1 p2 n9w n10w hX HZA HGX
              go_wp2_with fail
              refine HG.out.mono ?_
              clear HG
              rintro e wb ⟨rfl, hxb⟩
              have z0b := hxb.cell z0
              have z2b := hxb.cell z2
              have HXB := Lib.hid (HXA.out.trans hxb)
              clear q0 q1 q2 q3 q4 q5 q6 q7 q8 q9 q10 q11 z0 z2 hxb HXA
              go_wp2_with fail
              go_loopw [20, 21] (fun mv jv wi => ∃ j : Nat, j ≤ ws.length ∧ jv = .int .i64 (j : Int) ∧ mv = .bool (S6.named (ws.take j) x.key) ∧ Hid (Ext wb wi)) (fun _ jv _ => ws.length - (intOf jv).toNat)
              case atStart => exact ⟨0, Nat.zero_le _, rfl, rfl, Ext.refl _⟩
              case round =>
                obtain ⟨j, hj, rfl, rfl, hX⟩ := hrel
                have z0 := hX.out.cell z0b
                by_cases hltj : j < ws.length
                · have hltji : (j : Int) < (ws.length : Int) := by omega
                  obtain ⟨yb, yo, rfl, y0, -, -, -⟩ := HYC.out j hltj
                  replace y0 := (HXB.out.trans hX.out).cell y0
                  unfold strV at y0
                  have hnt := S6.named_take7 ws x.key j hltj
                  generalize ws[j] = y at *
                  generalize S6.named (ws.take j) x.key = b at *
                  clear z0b z2b
                  cases b with
                  | true =>
                    rw [Bool.true_or] at hnt
                    have HNT := Lib.hid hnt
                    clear hnt
                    go_upto_region 24 with fail
                    have hHeld := Ext.of_drew wr
                    refine wp_region_C (fun w' => Ext wr w') 11 (by kernel_rfl) ?_
                    (refine wpAnyC_take [11] (i := 0) (oi := ⟨some 98, _, _, _, _, _⟩) (v := ?_) rfl (by kernel_rfl) (by kernel_rfl) (by kernel_rfl) (by kernel_rfl) (fun _ _ _ h => h) (Or.inl ⟨by rfl, ?_⟩) hHeld ?_; rotate_left; (focus (intro w hSw; (skip); go_simp; first | done | with_reducible rfl)); try simp only [Act.put, List.setIfInBounds_toArray, List.set_cons_zero, List.set_cons_succ])
                    (refine wpAnyC_take [11] (i := 1) (oi := ⟨some 99, _, _, _, _, _⟩) (v := ?_) rfl (by kernel_rfl) (by kernel_rfl) (by kernel_rfl) (by kernel_rfl) (fun _ _ _ h => h) (Or.inl ⟨by rfl, ?_⟩) hHeld ?_; rotate_left; (focus (intro w hSw; (skip); go_simp; first | done | with_reducible rfl)); try simp only [Act.put, List.setIfInBounds_toArray, List.set_cons_zero, List.set_cons_succ])
                    (refine wpAnyC_take [11] (i := 2) (oi := ⟨some 100, _, _, _, _, _⟩) (v := undef) rfl (by kernel_rfl) (by kernel_rfl) (by kernel_rfl) (by kernel_rfl) (fun _ _ _ h => h) (Or.inr ⟨by rfl, rfl⟩) hHeld ?_; try simp only [Act.put, List.setIfInBounds_toArray, List.set_cons_zero, List.set_cons_succ])
                    (refine wpAnyC_take [11] (i := 3) (oi := ⟨some 101, _, _, _, _, _⟩) (v := undef) rfl (by kernel_rfl) (by kernel_rfl) (by kernel_rfl) (by kernel_rfl) (fun _ _ _ h => h) (Or.inr ⟨by rfl, rfl⟩) hHeld ?_; try simp only [Act.put, List.setIfInBounds_toArray, List.set_cons_zero, List.set_cons_succ])
                    (refine wpAnyC_take [11] (i := 4) (oi := ⟨some 102, _, _, _, _, _⟩) (v := undef) rfl (by kernel_rfl) (by kernel_rfl) (by kernel_rfl) (by kernel_rfl) (fun _ _ _ h => h) (Or.inr ⟨by rfl, rfl⟩) hHeld ?_; try simp only [Act.put, List.setIfInBounds_toArray, List.set_cons_zero, List.set_cons_succ])
                    (refine wpAnyC_take [11] (i := 5) (oi := ⟨some 103, _, _, _, _, _⟩) (v := undef) rfl (by kernel_rfl) (by kernel_rfl) (by kernel_rfl) (by kernel_rfl) (fun _ _ _ h => h) (Or.inr ⟨by rfl, rfl⟩) hHeld ?_; try simp only [Act.put, List.setIfInBounds_toArray, List.set_cons_zero, List.set_cons_succ])
                    (refine wpAnyC_take [11] (i := 6) (oi := ⟨some 104, _, _, _, _, _⟩) (v := undef) rfl (by kernel_rfl) (by kernel_rfl) (by kernel_rfl) (by kernel_rfl) (fun _ _ _ h => h) (Or.inr ⟨by rfl, rfl⟩) hHeld ?_; try simp only [Act.put, List.setIfInBounds_toArray, List.set_cons_zero, List.set_cons_succ])
                    (refine wpAnyC_take [11] (i := 7) (oi := ⟨some 105, _, _, _, _, _⟩) (v := undef) rfl (by kernel_rfl) (by kernel_rfl) (by kernel_rfl) (by kernel_rfl) (fun _ _ _ h => h) (Or.inr ⟨by rfl, rfl⟩) hHeld ?_; try simp only [Act.put, List.setIfInBounds_toArray, List.set_cons_zero, List.set_cons_succ])
                    (refine wpAnyC_take [11] (i := 8) (oi := ⟨some 106, _, _, _, _, _⟩) (v := undef) rfl (by kernel_rfl) (by kernel_rfl) (by kernel_rfl) (by kernel_rfl) (fun _ _ _ h => h) (Or.inr ⟨by rfl, rfl⟩) hHeld ?_; try simp only [Act.put, List.setIfInBounds_toArray, List.set_cons_zero, List.set_cons_succ])
                    (refine wpAnyC_take [11] (i := 9) (oi := ⟨some 107, _, _, _, _, _⟩) (v := undef) rfl (by kernel_rfl) (by kernel_rfl) (by kernel_rfl) (by kernel_rfl) (fun _ _ _ h => h) (Or.inr ⟨by rfl, rfl⟩) hHeld ?_; try simp only [Act.put, List.setIfInBounds_toArray, List.set_cons_zero, List.set_cons_succ])
                    (refine wpAnyC_take [11] (i := 10) (oi := ⟨some 108, _, _, _, _, _⟩) (v := ?_) rfl (by kernel_rfl) (by kernel_rfl) (by kernel_rfl) (by kernel_rfl) (fun _ _ _ h => h) (Or.inl ⟨by rfl, ?_⟩) hHeld ?_; rotate_left; (focus (intro w hSw; (skip); go_simp; first | done | with_reducible rfl)); try simp only [Act.put, List.setIfInBounds_toArray, List.set_cons_zero, List.set_cons_succ])
                    refine wpAnyC_c (oi := ⟨some 20, _, _, _, _, _⟩) rfl (by kernel_rfl) (fun K hK => ?_)
                    rw [if_pos (by rfl)]
                    go_simp
                    refine hK.out _ _ ?_
                    clear hK K
                    try simp only [Act.put, List.setIfInBounds_toArray, List.set_cons_zero, List.set_cons_succ]
                    refine wpAny_done (by kernel_rfl) ?_ _
                    have HX9 := Lib.hid (hX.out.trans hHeld)
                    clear hHeld
                    go_wp2
                    exact ⟨⟨j + 1, by omega, by go_num, by rw [HNT.out], HX9⟩, by simp [intOf]; omega⟩
                  | false =>
                    rw [Bool.false_or] at hnt
                    by_cases e : y.key = x.key
                    · have eb : (y.key == x.key) = true := by rw [beq_iff_eq]; exact e
                      rw [decide_eq_true e] at hnt
                      have HNT := Lib.hid hnt
                      clear hnt e
                      go_upto_region 24 with fail
                      have hHeld := Ext.of_drew wr
                      refine wp_region_C (fun w' => Ext wr w') 11 (by kernel_rfl) ?_
                      (refine wpAnyC_take [11] (i := 0) (oi := ⟨some 98, _, _, _, _, _⟩) (v := ?_) rfl (by kernel_rfl) (by kernel_rfl) (by kernel_rfl) (by kernel_rfl) (fun _ _ _ h => h) (Or.inl ⟨by rfl, ?_⟩) hHeld ?_; rotate_left; (focus (intro w hSw; (skip); go_simp; first | done | with_reducible rfl)); try simp only [Act.put, List.setIfInBounds_toArray, List.set_cons_zero, List.set_cons_succ])
                      (refine wpAnyC_take [11] (i := 1) (oi := ⟨some 99, _, _, _, _, _⟩) (v := ?_) rfl (by kernel_rfl) (by kernel_rfl) (by kernel_rfl) (by kernel_rfl) (fun _ _ _ h => h) (Or.inl ⟨by rfl, ?_⟩) hHeld ?_; rotate_left; (focus (intro w hSw; (skip); go_simp; first | done | with_reducible rfl)); try simp only [Act.put, List.setIfInBounds_toArray, List.set_cons_zero, List.set_cons_succ])
                      (refine wpAnyC_take [11] (i := 2) (oi := ⟨some 100, _, _, _, _, _⟩) (v := ?_) rfl (by kernel_rfl) (by kernel_rfl) (by kernel_rfl) (by kernel_rfl) (fun _ _ _ h => h) (Or.inl ⟨by rfl, ?_⟩) hHeld ?_; rotate_left; (focus (intro w hSw; (skip); go_simp; first | done | with_reducible rfl)); try simp only [Act.put, List.setIfInBounds_toArray, List.set_cons_zero, List.set_cons_succ])
                      (refine wpAnyC_take [11] (i := 3) (oi := ⟨some 101, _, _, _, _, _⟩) (v := ?_) rfl (by kernel_rfl) (by kernel_rfl) (by kernel_rfl) (by kernel_rfl) (fun _ _ _ h => h) (Or.inl ⟨by rfl, ?_⟩) hHeld ?_; rotate_left; (focus (intro w hSw; (skip); go_simp; first | done | with_reducible rfl)); try simp only [Act.put, List.setIfInBounds_toArray, List.set_cons_zero, List.set_cons_succ])
                      (refine wpAnyC_take [11] (i := 4) (oi := ⟨some 102, _, _, _, _, _⟩) (v := ?_) rfl (by kernel_rfl) (by kernel_rfl) (by kernel_rfl) (by kernel_rfl) (fun _ _ _ h => h) (Or.inl ⟨by rfl, ?_⟩) hHeld ?_; rotate_left; (focus (intro w hSw; (skip); go_simp; first | done | with_reducible rfl)); try simp only [Act.put, List.setIfInBounds_toArray, List.set_cons_zero, List.set_cons_succ])
                      (refine wpAnyC_take [11] (i := 5) (oi := ⟨some 103, _, _, _, _, _⟩) (v := ?_) rfl (by kernel_rfl) (by kernel_rfl) (by kernel_rfl) (by kernel_rfl) (fun _ _ _ h => h) (Or.inl ⟨by rfl, ?_⟩) hHeld ?_; rotate_left; (focus (intro w hSw; (skip); go_simp; first | done | with_reducible rfl)); try simp only [Act.put, List.setIfInBounds_toArray, List.set_cons_zero, List.set_cons_succ])
                      (refine wpAnyC_take [11] (i := 6) (oi := ⟨some 104, _, _, _, _, _⟩) (v := ?_) rfl (by kernel_rfl) (by kernel_rfl) (by kernel_rfl) (by kernel_rfl) (fun _ _ _ h => h) (Or.inl ⟨by rfl, ?_⟩) hHeld ?_; rotate_left; (focus (intro w hSw; ((have q := hSw.cell y0)); go_simp; first | done | with_reducible rfl)); try simp only [Act.put, List.setIfInBounds_toArray, List.set_cons_zero, List.set_cons_succ])
                      (refine wpAnyC_take [11] (i := 7) (oi := ⟨some 105, _, _, _, _, _⟩) (v := ?_) rfl (by kernel_rfl) (by kernel_rfl) (by kernel_rfl) (by kernel_rfl) (fun _ _ _ h => h) (Or.inl ⟨by rfl, ?_⟩) hHeld ?_; rotate_left; (focus (intro w hSw; (skip); go_simp; first | done | with_reducible rfl)); try simp only [Act.put, List.setIfInBounds_toArray, List.set_cons_zero, List.set_cons_succ])
                      (refine wpAnyC_take [11] (i := 8) (oi := ⟨some 106, _, _, _, _, _⟩) (v := ?_) rfl (by kernel_rfl) (by kernel_rfl) (by kernel_rfl) (by kernel_rfl) (fun _ _ _ h => h) (Or.inl ⟨by rfl, ?_⟩) hHeld ?_; rotate_left; (focus (intro w hSw; ((have q := hSw.cell z0)); go_simp; first | done | with_reducible rfl)); try simp only [Act.put, List.setIfInBounds_toArray, List.set_cons_zero, List.set_cons_succ])
                      (refine wpAnyC_take [11] (i := 9) (oi := ⟨some 107, _, _, _, _, _⟩) (v := ?_) rfl (by kernel_rfl) (by kernel_rfl) (by kernel_rfl) (by kernel_rfl) (fun _ _ _ h => h) (Or.inl ⟨by rfl, ?_⟩) hHeld ?_; rotate_left; (focus (intro w hSw; (skip); go_simp; first | done | with_reducible rfl)); try simp only [Act.put, List.setIfInBounds_toArray, List.set_cons_zero, List.set_cons_succ])
                      (refine wpAnyC_take [11] (i := 10) (oi := ⟨some 108, _, _, _, _, _⟩) (v := ?_) rfl (by kernel_rfl) (by kernel_rfl) (by kernel_rfl) (by kernel_rfl) (fun _ _ _ h => h) (Or.inl ⟨by rfl, ?_⟩) hHeld ?_; rotate_left; (focus (intro w hSw; (skip); go_simp; first | done | with_reducible rfl)); try simp only [Act.put, List.setIfInBounds_toArray, List.set_cons_zero, List.set_cons_succ])
                      refine wpAnyC_c (oi := ⟨some 20, _, _, _, _, _⟩) rfl (by kernel_rfl) (fun K hK => ?_)
                      rw [if_pos (by rfl)]
                      go_simp
                      refine hK.out _ _ ?_
                      clear hK K
                      try simp only [Act.put, List.setIfInBounds_toArray, List.set_cons_zero, List.set_cons_succ]
                      refine wpAny_done (by kernel_rfl) ?_ _
                      have HX9 := Lib.hid (hX.out.trans hHeld)
                      clear hHeld
                      go_wp2
                      exact ⟨⟨j + 1, by omega, by go_num, by rw [HNT.out], HX9⟩, by simp [intOf]; omega⟩
                    · have eb : (y.key == x.key) = false := by rw [beq_eq_false_iff_ne]; exact e
                      rw [decide_eq_false e] at hnt
                      have HNT := Lib.hid hnt
                      clear hnt e
                      go_upto_region 24 with fail
                      have hHeld := Ext.of_drew wr
                      refine wp_region_C (fun w' => Ext wr w') 11 (by kernel_rfl) ?_
                      (refine wpAnyC_take [11] (i := 0) (oi := ⟨some 98, _, _, _, _, _⟩) (v := ?_) rfl (by kernel_rfl) (by kernel_rfl) (by kernel_rfl) (by kernel_rfl) (fun _ _ _ h => h) (Or.inl ⟨by rfl, ?_⟩) hHeld ?_; rotate_left; (focus (intro w hSw; (skip); go_simp; first | done | with_reducible rfl)); try simp only [Act.put, List.setIfInBounds_toArray, List.set_cons_zero, List.set_cons_succ])
                      (refine wpAnyC_take [11] (i := 1) (oi := ⟨some 99, _, _, _, _, _⟩) (v := ?_) rfl (by kernel_rfl) (by kernel_rfl) (by kernel_rfl) (by kernel_rfl) (fun _ _ _ h => h) (Or.inl ⟨by rfl, ?_⟩) hHeld ?_; rotate_left; (focus (intro w hSw; (skip); go_simp; first | done | with_reducible rfl)); try simp only [Act.put, List.setIfInBounds_toArray, List.set_cons_zero, List.set_cons_succ])
                      (refine wpAnyC_take [11] (i := 2) (oi := ⟨some 100, _, _, _, _, _⟩) (v := ?_) rfl (by kernel_rfl) (by kernel_rfl) (by kernel_rfl) (by kernel_rfl) (fun _ _ _ h => h) (Or.inl ⟨by rfl, ?_⟩) hHeld ?_; rotate_left; (focus (intro w hSw; (skip); go_simp; first | done | with_reducible rfl)); try simp only [Act.put, List.setIfInBounds_toArray, List.set_cons_zero, List.set_cons_succ])
                      (refine wpAnyC_take [11] (i := 3) (oi := ⟨some 101, _, _, _, _, _⟩) (v := ?_) rfl (by kernel_rfl) (by kernel_rfl) (by kernel_rfl) (by kernel_rfl) (fun _ _ _ h => h) (Or.inl ⟨by rfl, ?_⟩) hHeld ?_; rotate_left; (focus (intro w hSw; (skip); go_simp; first | done | with_reducible rfl)); try simp only [Act.put, List.setIfInBounds_toArray, List.set_cons_zero, List.set_cons_succ])
                      (refine wpAnyC_take [11] (i := 4) (oi := ⟨some 102, _, _, _, _, _⟩) (v := ?_) rfl (by kernel_rfl) (by kernel_rfl) (by kernel_rfl) (by kernel_rfl) (fun _ _ _ h => h) (Or.inl ⟨by rfl, ?_⟩) hHeld ?_; rotate_left; (focus (intro w hSw; (skip); go_simp; first | done | with_reducible rfl)); try simp only [Act.put, List.setIfInBounds_toArray, List.set_cons_zero, List.set_cons_succ])
                      (refine wpAnyC_take [11] (i := 5) (oi := ⟨some 103, _, _, _, _, _⟩) (v := ?_) rfl (by kernel_rfl) (by kernel_rfl) (by kernel_rfl) (by kernel_rfl) (fun _ _ _ h => h) (Or.inl ⟨by rfl, ?_⟩) hHeld ?_; rotate_left; (focus (intro w hSw; (skip); go_simp; first | done | with_reducible rfl)); try simp only [Act.put, List.setIfInBounds_toArray, List.set_cons_zero, List.set_cons_succ])
                      (refine wpAnyC_take [11] (i := 6) (oi := ⟨some 104, _, _, _, _, _⟩) (v := ?_) rfl (by kernel_rfl) (by kernel_rfl) (by kernel_rfl) (by kernel_rfl) (fun _ _ _ h => h) (Or.inl ⟨by rfl, ?_⟩) hHeld ?_; rotate_left; (focus (intro w hSw; ((have q := hSw.cell y0)); go_simp; first | done | with_reducible rfl)); try simp only [Act.put, List.setIfInBounds_toArray, List.set_cons_zero, List.set_cons_succ])
                      (refine wpAnyC_take [11] (i := 7) (oi := ⟨some 105, _, _, _, _, _⟩) (v := ?_) rfl (by kernel_rfl) (by kernel_rfl) (by kernel_rfl) (by kernel_rfl) (fun _ _ _ h => h) (Or.inl ⟨by rfl, ?_⟩) hHeld ?_; rotate_left; (focus (intro w hSw; (skip); go_simp; first | done | with_reducible rfl)); try simp only [Act.put, List.setIfInBounds_toArray, List.set_cons_zero, List.set_cons_succ])
                      (refine wpAnyC_take [11] (i := 8) (oi := ⟨some 106, _, _, _, _, _⟩) (v := ?_) rfl (by kernel_rfl) (by kernel_rfl) (by kernel_rfl) (by kernel_rfl) (fun _ _ _ h => h) (Or.inl ⟨by rfl, ?_⟩) hHeld ?_; rotate_left; (focus (intro w hSw; ((have q := hSw.cell z0)); go_simp; first | done | with_reducible rfl)); try simp only [Act.put, List.setIfInBounds_toArray, List.set_cons_zero, List.set_cons_succ])
                      (refine wpAnyC_take [11] (i := 9) (oi := ⟨some 107, _, _, _, _, _⟩) (v := ?_) rfl (by kernel_rfl) (by kernel_rfl) (by kernel_rfl) (by kernel_rfl) (fun _ _ _ h => h) (Or.inl ⟨by rfl, ?_⟩) hHeld ?_; rotate_left; (focus (intro w hSw; (skip); go_simp; first | done | with_reducible rfl)); try simp only [Act.put, List.setIfInBounds_toArray, List.set_cons_zero, List.set_cons_succ])
                      (refine wpAnyC_take [11] (i := 10) (oi := ⟨some 108, _, _, _, _, _⟩) (v := ?_) rfl (by kernel_rfl) (by kernel_rfl) (by kernel_rfl) (by kernel_rfl) (fun _ _ _ h => h) (Or.inl ⟨by rfl, ?_⟩) hHeld ?_; rotate_left; (focus (intro w hSw; (skip); go_simp; first | done | with_reducible rfl)); try simp only [Act.put, List.setIfInBounds_toArray, List.set_cons_zero, List.set_cons_succ])
                      refine wpAnyC_c (oi := ⟨some 20, _, _, _, _, _⟩) rfl (by kernel_rfl) (fun K hK => ?_)
                      rw [if_pos (by rfl)]
                      go_simp
                      refine hK.out _ _ ?_
                      clear hK K
                      try simp only [Act.put, List.setIfInBounds_toArray, List.set_cons_zero, List.set_cons_succ]
                      refine wpAny_done (by kernel_rfl) ?_ _
                      have HX9 := Lib.hid (hX.out.trans hHeld)
                      clear hHeld
                      go_wp2
                      exact ⟨⟨j + 1, by omega, by go_num, by rw [HNT.out], HX9⟩, by simp [intOf]; omega⟩
                · have hgej : ¬ (j : Int) < (ws.length : Int) := by omega
                  rw [List.take_of_length_le (by omega : ws.length ≤ j)]
                  have z2 := hX.out.cell z2b
                  have n10w := (HXB.out.trans hX.out).cell n10
                  have HX9 := Lib.hid (HXB.out.trans hX.out)
                  have d1 : decide ((T.num : Int) < (x.ver : Int)) = false := decide_eq_false (by omega)
                  have d1b : ¬ T.num < x.ver := by omega
                  have d2 : ((x.ver : Int) == 0) = false := by rw [beq_eq_false_iff_ne]; omega
                  have d2b : ¬ x.ver = 0 := by omega
                  clear z0b z2b hX
                  by_cases hve : x.ver = vo
                  · have d3 : ((x.ver : Int) != (vo : Int)) = false := by rw [hve]; simp
                    have HVE := Lib.hid hve
                    subst hve
                    clear d3 HVE hva hvb
                    go_wp2_with fail
                    exact ⟨⟨k + 1, by omega, by go_num, HX9⟩, by simp [intOf]; omega⟩
                  · obtain ⟨h1, h2, h3, h4⟩ := HVC.out.resolve_left hve
                    subst h2
                    rw [h1]
                    have d3 : ((x.ver : Int) == (vo : Int)) = false := by rw [beq_eq_false_iff_ne]; omega
                    have d3b : ¬ x.ver = vo := hve
                    have d4 : decide ((nn : Int) ≤ (most : Int)) = false := decide_eq_false (by omega)
                    have d5 : ¬ nn ≤ most := by omega
                    rw [h3] at d1 d1b d2 d2b d3 d3b z2
                    clear hve h1 h3 h4 hva hvb HVC
                    go_wp2_with fail
                    exact ⟨⟨k + 1, by omega, by go_num, HX9⟩, by simp [intOf]; omega⟩
            · have hge : ¬ (k : Int) < (T.l.length : Int) := by omega
              have HLz := Lib.hid (HL9.out.after hX.out)
              have HIz := Lib.hid (HI6.out.le (show 31 + i + 1 ≤ 31 + (i + 1) by omega))
              clear hX
              go_wp2_with fail
              exact ⟨⟨i + 1, T, T.num, by omega, by go_num, rfl, Nat.le_refl _, HLz, HIz⟩, by simp [intOf]; omega⟩
        · have k0b : (kind == 0) = false := by rw [beq_eq_false_iff_ne]; exact k0
          have HIz := Lib.hid (hI.out.le (show 31 + i ≤ 31 + (i + 1) by omega))
          clear hpu g2
          go_wp2_with fail
          exact ⟨⟨i + 1, S, most, by omega, by go_num, rfl, hmo, hL, HIz⟩, by simp [intOf]; omega⟩
      · have hge : ¬ (i : Int) < (l.length : Int) := by omega
        have HXz := Lib.hid (HX1.out.trans hL.out.toExt)
        clear hL hI
        go_wp2_with fail
        go_ret
        exact ⟨rfl, HXz.out⟩
end Go.Proofs.Ytnjfioikpajhlaa
