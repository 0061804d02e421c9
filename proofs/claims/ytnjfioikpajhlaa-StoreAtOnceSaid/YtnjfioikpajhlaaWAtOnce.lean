import Derived.Test.YtnjfioikpajhlaaMSt5
import Derived.Deep.QuietTactic
import Derived.BigQuiet
/- StoreAtOnce, the walk. (Printed by tools/mkwatonce.py.) -/
namespace Go.Proofs.Ytnjfioikpajhlaa
open Go.RowKit Go.Shelf

namespace S6
theorem out_no {l : List Pr} {ws : List Wr} (h : ws = []) : ws.length = 0 := by rw [h]; rfl
theorem filter_len {α : Type} (f : α → Bool) (l : List α) : l.countP f ≤ l.length := List.countP_le_length
theorem take_count {α : Type} (f : α → Bool) (l : List α) (i : Nat) (h : i < l.length) : (l.take (i + 1)).countP f = (l.take i).countP f + (if f l[i] = true then 1 else 0) := by
  rw [List.take_succ_eq_append_getElem h, List.countP_append, List.countP_cons, List.countP_nil, Nat.zero_add]
theorem named_take (ws : List Wr) (k : Key) (i : Nat) (h : i < ws.length) : named (ws.take (i + 1)) k = (named (ws.take i) k || decide (ws[i].key = k)) := by
  rw [List.take_succ_eq_append_getElem h, named_snoc]
end S6
set_option maxRecDepth 100000 in
set_option maxHeartbeats 6400000 in
theorem walk_storeAtOnce (sv : Value) (l : List Act6) (uv : Value) (ps : List S6.Pt) (w : World) (hs : Acts6In w sv l) (hp : PutsIn w uv ps) :
    Calls Try.prog 3 #[sv, uv] w fun e w' => e = .returned (.bool true) ∧ Ext w w' := by
  obtain ⟨a, cap, rfl, hll⟩ := hs.shape
  obtain ⟨hpl, ua, uc, rfl, _⟩ := hp.shape
  have HS := Lib.hid hs
  have HP := Lib.hid hp
  clear hs hp
  go_enter Try.func3, Try.ntmps3
  go_wp2_with fail
  refine (awake6 w).mono ?_
  rintro e w1 ⟨rfl, hx1⟩
  by_cases hbad : 30 < l.length
  · have hb := begun6_bad 40 _ l w1 (HS.out.ext hx1) (.inr (.inr hbad))
    have HB := Lib.hid hb
    have HX1 := Lib.hid hx1
    have hbi : (30 : Int) < (l.length : Int) := by omega
    clear hb hx1 HS HP hbad
    unfold zst at HB
    go_wp2_with fail
    refine HB.out.mono ?_
    clear HB
    rintro e w2 ⟨rfl, hx2⟩
    have HX2 := Lib.hid (HX1.out.trans hx2)
    clear hx2 HX1
    go_wp2
    go_ret
    exact ⟨by simp [hbi], HX2.out.alloc _⟩
  · have hb := begun6 40 _ l w1 (HS.out.ext hx1) (by omega) (by decide) (by decide)
    have HB := Lib.hid hb
    have HX1 := Lib.hid hx1
    clear hb hx1 HS hbad
    go_wp2_with fail
    refine HB.out.mono ?_
    clear HB
    rintro e w2 ⟨p, q, S, pv, rfl, hL, hI, hown⟩
    obtain ⟨pa, pc, rfl⟩ := own_any hown
    have hx3 := Ext.of_alloc w2 (.cells #[.int .i64 0, .slice none 0 0, .slice none 0 0, .bool false, .bool false, .int .i64 0, .int .u32 0, .slice none 0 0, .bool false, .slice pa S.l.length pc, .int .u64 (S.num : Int), .bool false] 37)
    have hb3 := heap_alloc_new w2 (.cells #[.int .i64 0, .slice none 0 0, .slice none 0 0, .bool false, .bool false, .int .i64 0, .int .u32 0, .slice none 0 0, .bool false, .slice pa S.l.length pc, .int .u64 (S.num : Int), .bool false] 37)
    have hs3 : (w2.alloc (.cells #[.int .i64 0, .slice none 0 0, .slice none 0 0, .bool false, .bool false, .int .i64 0, .int .u32 0, .slice none 0 0, .bool false, .slice pa S.l.length pc, .int .u64 (S.num : Int), .bool false] 37)).heap.size = w2.heap.size + 1 := World.size_alloc _ _
    have hsv : s6v gz (.slice pa S.l.length pc) S.num false = .agg #[.int .i64 0, .slice none 0 0, .slice none 0 0, .bool false, .bool false, .int .i64 0, .int .u32 0, .slice none 0 0, .bool false, .slice pa S.l.length pc, .int .u64 (S.num : Int), .bool false] := rfl
    obtain ⟨w3, hw3⟩ : ∃ w3, w3 = w2.alloc (.cells #[.int .i64 0, .slice none 0 0, .slice none 0 0, .bool false, .bool false, .int .i64 0, .int .u32 0, .slice none 0 0, .bool false, .slice pa S.l.length pc, .int .u64 (S.num : Int), .bool false] 37) := ⟨_, rfl⟩
    rw [← hw3] at hx3 hb3 hs3
    obtain ⟨hsr, hpk, hnm, hln⟩ := hL.facts
    have hk3 := BoxK.of_blk (v := .slice pa S.l.length pc) (num := S.num) hb3
    have hwr := writes6_any w3 gz (.slice pa S.l.length pc) S.num false S.l _ ps (RPs.of_own (hx3.keptOwn hown)) (by omega) (fun k hk => Nat.lt_of_lt_of_le (hown.lt k hk).2 hx3.size) (fun p hp => by have := (hpk p hp).ver; unfold S6.lastN at hnm; omega) (HP.out.ext ((HX1.out.trans hL.toExt).trans hx3)) (by simp [gz, Value.oneCell'])
    rw [hsv] at hwr
    have HWR := Lib.hid hwr
    have HL3 := Lib.hid (hL.all hx3)
    have HO3 := Lib.hid (hx3.keptOwn hown)
    have HK3 := Lib.hid hk3
    have HI := Lib.hid hI
    have HS3 := Lib.hid hs3
    obtain ⟨k0, k1, k2, k3, k4, k5, k6, k7, k8, k9, k10, k11⟩ := hk3
    have hsn : S.num ≤ 31 := hI.num
    clear hwr hL hown hb3 hI hs3 hsr hpk hnm HP hx3
    unfold s6v gz
    go_upto_region 6 with fail
    try rw [show (w2.alloc (.cells #[.int .i64 0, .slice none 0 0, .slice none 0 0, .bool false, .bool false, .int .i64 0, .int .u32 0, .slice none 0 0, .bool false, .slice pa S.l.length pc, .int .u64 (S.num : Int), .bool false] 37)) = w3 from hw3.symm]
    clear hw3 hsv
    go_wp2_with fail
    refine HWR.out.mono ?_
    clear HWR
    rintro e w4 ⟨xv, yv, us, rfl, hW4, hY4, hx4⟩
    have hwl := S6.wsOf_len S.l ps
    generalize hws : S6.wsOf S.l ps = ws at *
    have hwl2 : ws.length ≤ 70 := by omega
    clear hwl
    clear hws k0 k1 k2 k3 k4 k5 k6 k7 k8 k9 k10 k11
    have hwrs := hW4.wrs (X := New (New (fun k => k < w1.heap.size ∨ (Value.slice pa S.l.length pc).ownBlock = some k) w2 w3) w3 w4) (fun k h1 h2 => .inr ⟨h1, h2⟩)
    have hcm := commit_any (HL3.out.all hx4) xv _ hwrs HI.out.wait
    have hout := S6.commit_out HI.out HL3.out.held.okd (by omega) ws
    obtain ⟨⟨T, nn, cc⟩, hR⟩ : ∃ R, R = S6.commit S ws := ⟨_, rfl⟩
    rw [← hR] at hcm
    have HCM := Lib.hid hcm
    have HOUT := Lib.hid hout
    have HR := Lib.hid hR
    have HY4 := Lib.hid hY4
    have HX4 := Lib.hid hx4
    obtain ⟨ya, yc, rfl⟩ := own_any hY4
    clear hcm hout hwrs hW4 hY4 hx4 hR
    go_wp2_with fail
    refine HCM.out.mono ?_
    clear HCM
    rintro e w5 ⟨rfl, hL5, hK5⟩
    replace hL5 : Stod w1 w5 _ p q T := hL5
    have hkn := known_any hL5
    have HKN := Lib.hid hkn
    have HL5 := Lib.hid hL5
    have HK5 := Lib.hid hK5
    clear hkn hL5 hK5
    go_wp2_with fail
    refine HKN.out.mono ?_
    clear HKN
    rintro e w6 ⟨nv, rfl, hown6, hx6⟩
    obtain ⟨na, nc, rfl⟩ := own_any hown6
    have hm6 : BoxK w6 w2.heap.size (.slice pa S.l.length pc) S.num := ((HK3.out.ext HX4.out).keeps HK5.out (.inl (.inr ⟨Nat.le_refl _, by have := HS3.out; omega⟩))).ext hx6
    have hp6 : RPs w6 (.slice pa S.l.length pc) S.l := RPs.of_own (hx6.keptOwn (Keeps.own HK5.out (HX4.out.keptOwn HO3.out) (fun k hk => .inl (.inl (.inr hk)))))
    have hy6 : RWs w6 (.slice ya ws.length yc) ws := RWs.of_own (hx6.keptOwn (Keeps.own HK5.out HY4.out (fun k hk => .inr (HY4.out.lt k hk))))
    have hn6 : RPs w6 (.slice na T.l.length nc) T.l := RPs.of_own hown6
    have hX6 : Ext w w6 := (HX1.out.trans HL5.out.toExt).trans hx6
    have hf5 := HL5.out.facts.2.2.2
    have HI5 := Lib.hid (HI.out.srt)
    have hSl := HI.out.len
    clear HX1 HL3 HO3 HK3 HS3 HX4 HY4 HL5 HK5 hown6 hx6 hln HI
    have hx7 := Ext.of_alloc w6 (.cells #[.int .i64 0, .slice none 0 0, .slice none 0 0, .bool false, .bool false, .int .i64 0, .int .u32 0, .slice none 0 0, .bool false, .slice na T.l.length nc, .int .u64 (T.num : Int), .bool false] 37)
    have hb7 := heap_alloc_new w6 (.cells #[.int .i64 0, .slice none 0 0, .slice none 0 0, .bool false, .bool false, .int .i64 0, .int .u32 0, .slice none 0 0, .bool false, .slice na T.l.length nc, .int .u64 (T.num : Int), .bool false] 37)
    have hsn7 : s6v gz (.slice na T.l.length nc) T.num false = .agg #[.int .i64 0, .slice none 0 0, .slice none 0 0, .bool false, .bool false, .int .i64 0, .int .u32 0, .slice none 0 0, .bool false, .slice na T.l.length nc, .int .u64 (T.num : Int), .bool false] := rfl
    obtain ⟨w7, hw7⟩ : ∃ w7, w7 = w6.alloc (.cells #[.int .i64 0, .slice none 0 0, .slice none 0 0, .bool false, .bool false, .int .i64 0, .int .u32 0, .slice none 0 0, .bool false, .slice na T.l.length nc, .int .u64 (T.num : Int), .bool false] 37) := ⟨_, rfl⟩
    rw [← hw7] at hx7 hb7
    have hn7 := BoxK.of_blk (v := .slice na T.l.length nc) (num := T.num) hb7
    have HSM := Lib.hid (same6_any w7 _ _ _ _ (hn6.ext hx7) (hp6.ext hx7))
    have hgt := fun (W : World) (key : List UInt8) (hW : Ext w7 W) => refGet6 W gz _ T.num false _ key (hn6.ext (hx7.trans hW)) (by omega)
    rw [hsn7] at hgt
    unfold strV at hgt
    have HGT := Lib.hid hgt
    have HN7 := Lib.hid hn7
    obtain ⟨_, _, _, hv9, _, hpc⟩ := (hp6.ext hx7).shape
    obtain ⟨rfl, _, rfl⟩ := Value.slice.inj hv9
    obtain ⟨_, _, _, hv8, hyc⟩ := (hy6.ext hx7).shape
    obtain ⟨rfl, _, rfl⟩ := Value.slice.inj hv8
    have HPC := Lib.hid hpc
    have HYC := Lib.hid hyc
    have HX7 := Lib.hid (hX6.trans hx7)
    obtain ⟨-, -, -, -, -, -, -, -, -, m9, m10, -⟩ := hm6.ext hx7
    obtain ⟨-, -, -, -, -, -, -, -, -, n9, n10, -⟩ := hn7
    clear hm6 hp6 hy6 hn6 hX6 hx7 hb7 hpc hyc hv9 hv8 hgt hsn7
    unfold s6v gz
    go_upto_region 9 with fail
    try rw [show (w6.alloc (.cells #[.int .i64 0, .slice none 0 0, .slice none 0 0, .bool false, .bool false, .int .i64 0, .int .u32 0, .slice none 0 0, .bool false, .slice na T.l.length nc, .int .u64 (T.num : Int), .bool false] 37)) = w7 from hw7.symm]
    clear hw7
    generalize w6.heap.size = bn at *
    generalize w2.heap.size = bm at *
    clear hf5
    rcases HOUT.out with ⟨c, h0, he, -⟩ | ⟨hw, he⟩ | ⟨T', hw, hg, -, -, he, hl, hn, -⟩
    · obtain ⟨e1, e2, e3⟩ : T = S ∧ nn = 0 ∧ cc = c := by
        have := HR.out.trans he
        simpa using this
      subst e1 e2 e3
      have hcb : (cc != 0) = true := by rw [bne_iff_ne]; exact h0
      clear HOUT HR h0 he HGT HN7 HPC HYC HI5
      go_wp2_with fail
      refine HSM.out.mono ?_
      clear HSM
      rintro e w8 ⟨r, rfl, hr, hx8⟩
      obtain rfl : r = true := by simpa using hr
      have HX8 := Lib.hid (HX7.out.trans hx8)
      clear hr hx8 HX7
      go_wp2
      go_ret
      exact ⟨rfl, HX8.out⟩
    · obtain ⟨e1, e2, e3⟩ : T = S ∧ nn = S.num ∧ cc = 0 := by
        have := HR.out.trans he
        simpa using this
      subst e1 e2 e3
      have hw0 : ws.length = 0 := by rw [hw]; rfl
      have hwi : (ws.length : Int) = 0 := by omega
      clear HOUT HR hw he HGT HN7 HPC HYC HI5 hw0
      go_wp2_with fail
      refine HSM.out.mono ?_
      clear HSM
      rintro e w8 ⟨r, rfl, hr, hx8⟩
      obtain rfl : r = true := by simpa using hr
      have HX8 := Lib.hid (HX7.out.trans hx8)
      clear hr hx8 HX7
      go_wp2
      go_ret
      exact ⟨rfl, HX8.out⟩
    · obtain ⟨e1, hnn, e3⟩ : T = T' ∧ nn = S.num + 1 ∧ cc = 0 := by
        have := HR.out.trans he
        simpa using this
      subst e1 e3
      have hwn : ws.length ≠ 0 := fun e => hw (List.eq_nil_of_length_eq_zero e)
      have hwnb : ((ws.length : Int) == 0) = false := by rw [beq_eq_false_iff_ne]; omega
      have hwnb2 : ¬ ((ws.length : Int) = 0) := by omega
      have hlk := fun x (hx : x ∈ ws) => S6.apl_look (n := S.num + 1) ws HI5.out hg.two x hx
      have hll2 := fun k (hk : S6.named ws k = false) => S6.apl_look_no (n := S.num + 1) ws HI5.out k (fun y hy e => by rw [S6.named_iff.2 ⟨y, hy, e⟩] at hk; cases hk)
      have HLM := Lib.hid (fun pr (hpr : pr ∈ S.l) => S6.look_mem HI5.out hpr)
      have hct := S6.apl_count (n := S.num + 1) ws S.l hg.two
      rw [← hl] at hlk hll2 hct
      rw [← hnn] at hlk
      have HLK := Lib.hid hlk
      have HLN := Lib.hid hll2
      have HCT := Lib.hid hct
      have hwr1 : IntKind.u64.wrap ((S.num : Int) + 1) = (nn : Int) := by rw [IntKind.wrap_u64]; omega
      have HWL2 := Lib.hid hwl2
      have hSl2 : S.l.length ≤ 2000 := by omega
      rw [hn, ← hnn] at HN7 n10 HGT
      clear HOUT HR HSM hw he hg hl hct hn HI5 hlk hll2 hwn hnn hsn hwl2 hSl
      go_wp2_with fail
      go_loopw [14] (fun iv wr => ∃ i : Nat, i ≤ ws.length ∧ iv = .int .i64 (i : Int) ∧ Hid (Ext w7 wr)) (fun iv _ => ws.length - (intOf iv).toNat)
      case atStart => exact ⟨0, Nat.zero_le _, rfl, Ext.refl _⟩
      case round =>
        obtain ⟨i, hi, rfl, hX⟩ := hrel
        by_cases hlt : i < ws.length
        · have hlti : (i : Int) < (ws.length : Int) := by omega
          obtain ⟨yb, yo, rfl, c0, c1, c2, -⟩ := HYC.out i hlt
          replace c0 := hX.out.cell c0
          replace c1 := hX.out.cell c1
          replace c2 := hX.out.cell c2
          unfold strV at c0 c1
          have hlk := HLK.out _ (List.getElem_mem hlt)
          generalize ws[i] = x at *
          have hg := fun W (hW : Ext wr W) => HGT.out W x.key (hX.out.trans hW)
          rw [hlk] at hg
          have HBX := Lib.hid (fun W (hW : Ext wr W) => HN7.out.ext (hX.out.trans hW))
          clear hlk
          cases hd : x.drop with
          | true =>
            rw [hd, if_pos rfl] at hg
            rw [hd] at c2
            rw [show gotV none = .tuple #[.string ⟨#[]⟩, .int .u64 0, .bool false] from rfl] at hg
            have HG := Lib.hid hg
            clear hg hd
            go_upto_region 18 with fail
            have hHeld := Ext.of_drew wr
            refine wp_region_C (fun w' => Ext wr w') 6 (by kernel_rfl) ?_
            (refine wpAnyC_take [6] (i := 0) (oi := ⟨some 104, _, _, _, _, _⟩) (v := ?_) rfl (by kernel_rfl) (by kernel_rfl) (by kernel_rfl) (by kernel_rfl) (fun _ _ _ h => h) (Or.inl ⟨by rfl, ?_⟩) hHeld ?_; rotate_left; (focus (intro w hSw; ((obtain ⟨qa, qb, qc, qd, qe, qf, qg, qh, qi, qj, qk, ql⟩ := HBX.out _ hSw)); go_simp; first | done | with_reducible rfl)); try simp only [Act.put, List.setIfInBounds_toArray, List.set_cons_zero, List.set_cons_succ])
            (refine wpAnyC_take [3, 4, 5, 6] (i := 1) (oi := ⟨some 105, _, _, _, _, _⟩) (v := ?_) rfl (by kernel_rfl) (by kernel_rfl) (by kernel_rfl) (by kernel_rfl) (fun _ _ _ h => h) (Or.inl ⟨by rfl, ?_⟩) hHeld ?_; rotate_left; (focus (intro w hSw; (skip); go_simp; first | done | with_reducible rfl)); try simp only [Act.put, List.setIfInBounds_toArray, List.set_cons_zero, List.set_cons_succ])
            (refine wpAnyC_take [3, 4, 5, 6] (i := 2) (oi := ⟨some 106, _, _, _, _, _⟩) (v := ?_) rfl (by kernel_rfl) (by kernel_rfl) (by kernel_rfl) (by kernel_rfl) (fun _ _ _ h => h) (Or.inl ⟨by rfl, ?_⟩) hHeld ?_; rotate_left; (focus (intro w hSw; (skip); go_simp; first | done | with_reducible rfl)); try simp only [Act.put, List.setIfInBounds_toArray, List.set_cons_zero, List.set_cons_succ])
            (refine wpAnyC_take [4, 5, 6] (i := 3) (oi := ⟨some 107, _, _, _, _, _⟩) (v := ?_) rfl (by kernel_rfl) (by kernel_rfl) (by kernel_rfl) (by kernel_rfl) (fun _ _ _ h => h) (Or.inl ⟨by rfl, ?_⟩) hHeld ?_; rotate_left; (focus (intro w hSw; (skip); go_simp; first | done | with_reducible rfl)); try simp only [Act.put, List.setIfInBounds_toArray, List.set_cons_zero, List.set_cons_succ])
            (refine wpAnyC_take [5, 6] (i := 4) (oi := ⟨some 108, _, _, _, _, _⟩) (v := ?_) rfl (by kernel_rfl) (by kernel_rfl) (by kernel_rfl) (by kernel_rfl) (fun _ _ _ h => h) (Or.inl ⟨by rfl, ?_⟩) hHeld ?_; rotate_left; (focus (intro w hSw; (skip); go_simp; first | done | with_reducible rfl)); try simp only [Act.put, List.setIfInBounds_toArray, List.set_cons_zero, List.set_cons_succ])
            (refine wpAnyC_take [6] (i := 5) (oi := ⟨some 109, _, _, _, _, _⟩) (v := ?_) rfl (by kernel_rfl) (by kernel_rfl) (by kernel_rfl) (by kernel_rfl) (fun _ _ _ h => h) (Or.inl ⟨by rfl, ?_⟩) hHeld ?_; rotate_left; (focus (intro w hSw; ((have q := hSw.cell c0)); go_simp; first | done | with_reducible rfl)); try simp only [Act.put, List.setIfInBounds_toArray, List.set_cons_zero, List.set_cons_succ])
            refine wpAnyC_c (oi := ⟨some 110, _, _, _, _, _⟩) rfl (by kernel_rfl) (fun K hK => ?_)
            rw [if_pos (by rfl)]
            go_simp
            refine (HG.out _ hHeld).mono ?_
            rintro e w8 ⟨rfl, hx8⟩
            refine hK.out _ _ ?_
            clear hK K
            try simp only [Act.put, List.setIfInBounds_toArray, List.set_cons_zero, List.set_cons_succ]
            (refine wpAny_take (i := 7) (oi := ⟨some 103, _, _, _, _, _⟩) (v := ?_) rfl (by kernel_rfl) (by kernel_rfl) (by kernel_rfl) (fun _ _ _ h => h) (Or.inl ⟨by rfl, ?_⟩) ?_; rotate_left; (focus (intro w; go_simp; first | done | with_reducible rfl)); try simp only [Act.put, List.setIfInBounds_toArray, List.set_cons_zero, List.set_cons_succ])
            (refine wpAny_take (i := 8) (oi := ⟨some 111, _, _, _, _, _⟩) (v := ?_) rfl (by kernel_rfl) (by kernel_rfl) (by kernel_rfl) (fun _ _ _ h => h) (Or.inl ⟨by rfl, ?_⟩) ?_; rotate_left; (focus (intro w; go_simp; first | done | with_reducible rfl)); try simp only [Act.put, List.setIfInBounds_toArray, List.set_cons_zero, List.set_cons_succ])
            (refine wpAny_take (i := 9) (oi := ⟨some 112, _, _, _, _, _⟩) (v := ?_) rfl (by kernel_rfl) (by kernel_rfl) (by kernel_rfl) (fun _ _ _ h => h) (Or.inl ⟨by rfl, ?_⟩) ?_; rotate_left; (focus (intro w; go_simp; first | done | with_reducible rfl)); try simp only [Act.put, List.setIfInBounds_toArray, List.set_cons_zero, List.set_cons_succ])
            (refine wpAny_take (i := 10) (oi := ⟨some 113, _, _, _, _, _⟩) (v := ?_) rfl (by kernel_rfl) (by kernel_rfl) (by kernel_rfl) (fun _ _ _ h => h) (Or.inl ⟨by rfl, ?_⟩) ?_; rotate_left; (focus (intro w; go_simp; first | done | with_reducible rfl)); try simp only [Act.put, List.setIfInBounds_toArray, List.set_cons_zero, List.set_cons_succ])
            (refine wpAny_take (i := 11) (oi := ⟨some 15, _, _, _, _, _⟩) (v := ?_) rfl (by kernel_rfl) (by kernel_rfl) (by kernel_rfl) (fun _ _ _ h => h) (Or.inl ⟨by rfl, ?_⟩) ?_; rotate_left; (focus (intro w; go_simp; first | done | with_reducible rfl)); try simp only [Act.put, List.setIfInBounds_toArray, List.set_cons_zero, List.set_cons_succ])
            (refine wpAny_take (i := 12) (oi := ⟨some 16, _, _, _, _, _⟩) (v := ?_) rfl (by kernel_rfl) (by kernel_rfl) (by kernel_rfl) (fun _ _ _ h => h) (Or.inl ⟨by rfl, ?_⟩) ?_; rotate_left; (focus (intro w; go_simp; first | done | with_reducible rfl)); try simp only [Act.put, List.setIfInBounds_toArray, List.set_cons_zero, List.set_cons_succ])
            (refine wpAny_take (i := 13) (oi := ⟨some 17, _, _, _, _, _⟩) (v := ?_) rfl (by kernel_rfl) (by kernel_rfl) (by kernel_rfl) (fun _ _ _ h => h) (Or.inl ⟨by rfl, ?_⟩) ?_; rotate_left; (focus (intro w; go_simp; first | done | with_reducible rfl)); try simp only [Act.put, List.setIfInBounds_toArray, List.set_cons_zero, List.set_cons_succ])
            refine wpAny_done (by kernel_rfl) ?_ _
            have HX8 := Lib.hid (hHeld.trans hx8)
            have d2 := HX8.out.cell c2
            have HX9 := Lib.hid (hX.out.trans HX8.out)
            clear c0 c1 c2 hHeld hx8 HG HBX
            go_wp2_with fail
            exact ⟨⟨i + 1, by omega, by go_num, HX9⟩, by simp [intOf]; omega⟩
          | false =>
            rw [hd, if_neg (by decide)] at hg
            rw [hd] at c2
            rw [show gotV (some ⟨x.key, x.val, nn⟩) = .tuple #[.string ⟨x.val.toArray⟩, .int .u64 (nn : Int), .bool true] from rfl] at hg
            have HG := Lib.hid hg
            clear hg hd
            go_upto_region 18 with fail
            have hHeld := Ext.of_drew wr
            refine wp_region_C (fun w' => Ext wr w') 6 (by kernel_rfl) ?_
            (refine wpAnyC_take [6] (i := 0) (oi := ⟨some 104, _, _, _, _, _⟩) (v := ?_) rfl (by kernel_rfl) (by kernel_rfl) (by kernel_rfl) (by kernel_rfl) (fun _ _ _ h => h) (Or.inl ⟨by rfl, ?_⟩) hHeld ?_; rotate_left; (focus (intro w hSw; ((obtain ⟨qa, qb, qc, qd, qe, qf, qg, qh, qi, qj, qk, ql⟩ := HBX.out _ hSw)); go_simp; first | done | with_reducible rfl)); try simp only [Act.put, List.setIfInBounds_toArray, List.set_cons_zero, List.set_cons_succ])
            (refine wpAnyC_take [3, 4, 5, 6] (i := 1) (oi := ⟨some 105, _, _, _, _, _⟩) (v := ?_) rfl (by kernel_rfl) (by kernel_rfl) (by kernel_rfl) (by kernel_rfl) (fun _ _ _ h => h) (Or.inl ⟨by rfl, ?_⟩) hHeld ?_; rotate_left; (focus (intro w hSw; (skip); go_simp; first | done | with_reducible rfl)); try simp only [Act.put, List.setIfInBounds_toArray, List.set_cons_zero, List.set_cons_succ])
            (refine wpAnyC_take [3, 4, 5, 6] (i := 2) (oi := ⟨some 106, _, _, _, _, _⟩) (v := ?_) rfl (by kernel_rfl) (by kernel_rfl) (by kernel_rfl) (by kernel_rfl) (fun _ _ _ h => h) (Or.inl ⟨by rfl, ?_⟩) hHeld ?_; rotate_left; (focus (intro w hSw; (skip); go_simp; first | done | with_reducible rfl)); try simp only [Act.put, List.setIfInBounds_toArray, List.set_cons_zero, List.set_cons_succ])
            (refine wpAnyC_take [4, 5, 6] (i := 3) (oi := ⟨some 107, _, _, _, _, _⟩) (v := ?_) rfl (by kernel_rfl) (by kernel_rfl) (by kernel_rfl) (by kernel_rfl) (fun _ _ _ h => h) (Or.inl ⟨by rfl, ?_⟩) hHeld ?_; rotate_left; (focus (intro w hSw; (skip); go_simp; first | done | with_reducible rfl)); try simp only [Act.put, List.setIfInBounds_toArray, List.set_cons_zero, List.set_cons_succ])
            (refine wpAnyC_take [5, 6] (i := 4) (oi := ⟨some 108, _, _, _, _, _⟩) (v := ?_) rfl (by kernel_rfl) (by kernel_rfl) (by kernel_rfl) (by kernel_rfl) (fun _ _ _ h => h) (Or.inl ⟨by rfl, ?_⟩) hHeld ?_; rotate_left; (focus (intro w hSw; (skip); go_simp; first | done | with_reducible rfl)); try simp only [Act.put, List.setIfInBounds_toArray, List.set_cons_zero, List.set_cons_succ])
            (refine wpAnyC_take [6] (i := 5) (oi := ⟨some 109, _, _, _, _, _⟩) (v := ?_) rfl (by kernel_rfl) (by kernel_rfl) (by kernel_rfl) (by kernel_rfl) (fun _ _ _ h => h) (Or.inl ⟨by rfl, ?_⟩) hHeld ?_; rotate_left; (focus (intro w hSw; ((have q := hSw.cell c0)); go_simp; first | done | with_reducible rfl)); try simp only [Act.put, List.setIfInBounds_toArray, List.set_cons_zero, List.set_cons_succ])
            refine wpAnyC_c (oi := ⟨some 110, _, _, _, _, _⟩) rfl (by kernel_rfl) (fun K hK => ?_)
            rw [if_pos (by rfl)]
            go_simp
            refine (HG.out _ hHeld).mono ?_
            rintro e w8 ⟨rfl, hx8⟩
            refine hK.out _ _ ?_
            clear hK K
            try simp only [Act.put, List.setIfInBounds_toArray, List.set_cons_zero, List.set_cons_succ]
            (refine wpAny_take (i := 7) (oi := ⟨some 103, _, _, _, _, _⟩) (v := ?_) rfl (by kernel_rfl) (by kernel_rfl) (by kernel_rfl) (fun _ _ _ h => h) (Or.inl ⟨by rfl, ?_⟩) ?_; rotate_left; (focus (intro w; go_simp; first | done | with_reducible rfl)); try simp only [Act.put, List.setIfInBounds_toArray, List.set_cons_zero, List.set_cons_succ])
            (refine wpAny_take (i := 8) (oi := ⟨some 111, _, _, _, _, _⟩) (v := ?_) rfl (by kernel_rfl) (by kernel_rfl) (by kernel_rfl) (fun _ _ _ h => h) (Or.inl ⟨by rfl, ?_⟩) ?_; rotate_left; (focus (intro w; go_simp; first | done | with_reducible rfl)); try simp only [Act.put, List.setIfInBounds_toArray, List.set_cons_zero, List.set_cons_succ])
            (refine wpAny_take (i := 9) (oi := ⟨some 112, _, _, _, _, _⟩) (v := ?_) rfl (by kernel_rfl) (by kernel_rfl) (by kernel_rfl) (fun _ _ _ h => h) (Or.inl ⟨by rfl, ?_⟩) ?_; rotate_left; (focus (intro w; go_simp; first | done | with_reducible rfl)); try simp only [Act.put, List.setIfInBounds_toArray, List.set_cons_zero, List.set_cons_succ])
            (refine wpAny_take (i := 10) (oi := ⟨some 113, _, _, _, _, _⟩) (v := ?_) rfl (by kernel_rfl) (by kernel_rfl) (by kernel_rfl) (fun _ _ _ h => h) (Or.inl ⟨by rfl, ?_⟩) ?_; rotate_left; (focus (intro w; go_simp; first | done | with_reducible rfl)); try simp only [Act.put, List.setIfInBounds_toArray, List.set_cons_zero, List.set_cons_succ])
            (refine wpAny_take (i := 11) (oi := ⟨some 15, _, _, _, _, _⟩) (v := ?_) rfl (by kernel_rfl) (by kernel_rfl) (by kernel_rfl) (fun _ _ _ h => h) (Or.inl ⟨by rfl, ?_⟩) ?_; rotate_left; (focus (intro w; go_simp; first | done | with_reducible rfl)); try simp only [Act.put, List.setIfInBounds_toArray, List.set_cons_zero, List.set_cons_succ])
            (refine wpAny_take (i := 12) (oi := ⟨some 16, _, _, _, _, _⟩) (v := ?_) rfl (by kernel_rfl) (by kernel_rfl) (by kernel_rfl) (fun _ _ _ h => h) (Or.inl ⟨by rfl, ?_⟩) ?_; rotate_left; (focus (intro w; go_simp; first | done | with_reducible rfl)); try simp only [Act.put, List.setIfInBounds_toArray, List.set_cons_zero, List.set_cons_succ])
            (refine wpAny_take (i := 13) (oi := ⟨some 17, _, _, _, _, _⟩) (v := ?_) rfl (by kernel_rfl) (by kernel_rfl) (by kernel_rfl) (fun _ _ _ h => h) (Or.inl ⟨by rfl, ?_⟩) ?_; rotate_left; (focus (intro w; go_simp; first | done | with_reducible rfl)); try simp only [Act.put, List.setIfInBounds_toArray, List.set_cons_zero, List.set_cons_succ])
            refine wpAny_done (by kernel_rfl) ?_ _
            have HX8 := Lib.hid (hHeld.trans hx8)
            have d1 := HX8.out.cell c1
            have d2 := HX8.out.cell c2
            have HX9 := Lib.hid (hX.out.trans HX8.out)
            clear c0 c1 c2 hHeld hx8 HG HBX
            go_wp2_with fail
            exact ⟨⟨i + 1, by omega, by go_num, HX9⟩, by simp [intOf]; omega⟩
        · have hge : ¬ (i : Int) < (ws.length : Int) := by omega
          clear hi
          go_wp2_with fail
          go_loopw [18, 19] (fun lv iv wj => ∃ i : Nat, i ≤ S.l.length ∧ iv = .int .i64 (i : Int) ∧ lv = .int .i64 (((S.l.take i).countP (fun p => !S6.named ws p.key) : Nat) : Int) ∧ Hid (Ext w7 wj)) (fun _ iv _ => S.l.length - (intOf iv).toNat)
          case atStart => exact ⟨0, Nat.zero_le _, rfl, rfl, hX⟩
          case round =>
            clear hX hge hlt
            obtain ⟨j, hj, rfl, rfl, hX⟩ := hrel
            by_cases hlt : j < S.l.length
            · have hlti : (j : Int) < (S.l.length : Int) := by omega
              obtain ⟨pb, po, rfl, p0, p1, p2⟩ := HPC.out j hlt
              unfold strV at p0 p1
              have hlm := HLM.out _ (List.getElem_mem hlt)
              have htc := S6.take_count (fun p => !S6.named ws p.key) S.l j hlt
              have hcb : (S.l.take j).countP (fun p => !S6.named ws p.key) ≤ 2000 := by
                have h1 := List.countP_le_length (p := fun p => !S6.named ws p.key) (l := S.l.take j)
                rw [List.length_take] at h1
                omega
              have hln2 := HLN.out S.l[j].key
              rw [hlm] at hln2
              generalize S.l[j] = x at *
              generalize hcc : (S.l.take j).countP (fun p => !S6.named ws p.key) = c at *
              have HTC := Lib.hid htc
              have HLN2 := Lib.hid hln2
              have m9j := hX.out.cell m9
              clear htc hln2 hlm hcc
              go_wp2_with fail
              go_loopw [20, 21] (fun mv kv wi => ∃ k : Nat, k ≤ ws.length ∧ kv = .int .i64 (k : Int) ∧ mv = .bool (S6.named (ws.take k) x.key) ∧ Hid (Ext w7 wi)) (fun _ kv _ => ws.length - (intOf kv).toNat)
              case atStart => exact ⟨0, Nat.zero_le _, rfl, rfl, hX⟩
              case round =>
                clear hX m9j
                obtain ⟨k, hk, rfl, rfl, hX⟩ := hrel
                by_cases hltk : k < ws.length
                · have hltki : (k : Int) < (ws.length : Int) := by omega
                  obtain ⟨yb, yo, rfl, y0, -, -, -⟩ := HYC.out k hltk
                  replace y0 := hX.out.cell y0
                  have m9 := hX.out.cell m9
                  have p0 := hX.out.cell p0
                  unfold strV at y0
                  have hnt := S6.named_take ws x.key k hltk
                  generalize ws[k] = y at *
                  generalize S6.named (ws.take k) x.key = b at *
                  cases b with
                  | true =>
                    rw [Bool.true_or] at hnt
                    have HNT := Lib.hid hnt
                    clear hnt
                    go_upto_region 29 with fail
                    have hHeld := Ext.of_drew wr
                    refine wp_region_C (fun w' => Ext wr w') 15 (by kernel_rfl) ?_
                    (refine wpAnyC_take [15] (i := 0) (oi := ⟨some 151, _, _, _, _, _⟩) (v := ?_) rfl (by kernel_rfl) (by kernel_rfl) (by kernel_rfl) (by kernel_rfl) (fun _ _ _ h => h) (Or.inl ⟨by rfl, ?_⟩) hHeld ?_; rotate_left; (focus (intro w hSw; (skip); go_simp; first | done | with_reducible rfl)); try simp only [Act.put, List.setIfInBounds_toArray, List.set_cons_zero, List.set_cons_succ])
                    (refine wpAnyC_take [15] (i := 1) (oi := ⟨some 152, _, _, _, _, _⟩) (v := ?_) rfl (by kernel_rfl) (by kernel_rfl) (by kernel_rfl) (by kernel_rfl) (fun _ _ _ h => h) (Or.inl ⟨by rfl, ?_⟩) hHeld ?_; rotate_left; (focus (intro w hSw; (skip); go_simp; first | done | with_reducible rfl)); try simp only [Act.put, List.setIfInBounds_toArray, List.set_cons_zero, List.set_cons_succ])
                    (refine wpAnyC_take [15] (i := 2) (oi := ⟨some 153, _, _, _, _, _⟩) (v := undef) rfl (by kernel_rfl) (by kernel_rfl) (by kernel_rfl) (by kernel_rfl) (fun _ _ _ h => h) (Or.inr ⟨by rfl, rfl⟩) hHeld ?_; try simp only [Act.put, List.setIfInBounds_toArray, List.set_cons_zero, List.set_cons_succ])
                    (refine wpAnyC_take [15] (i := 3) (oi := ⟨some 154, _, _, _, _, _⟩) (v := undef) rfl (by kernel_rfl) (by kernel_rfl) (by kernel_rfl) (by kernel_rfl) (fun _ _ _ h => h) (Or.inr ⟨by rfl, rfl⟩) hHeld ?_; try simp only [Act.put, List.setIfInBounds_toArray, List.set_cons_zero, List.set_cons_succ])
                    (refine wpAnyC_take [15] (i := 4) (oi := ⟨some 155, _, _, _, _, _⟩) (v := undef) rfl (by kernel_rfl) (by kernel_rfl) (by kernel_rfl) (by kernel_rfl) (fun _ _ _ h => h) (Or.inr ⟨by rfl, rfl⟩) hHeld ?_; try simp only [Act.put, List.setIfInBounds_toArray, List.set_cons_zero, List.set_cons_succ])
                    (refine wpAnyC_take [15] (i := 5) (oi := ⟨some 156, _, _, _, _, _⟩) (v := undef) rfl (by kernel_rfl) (by kernel_rfl) (by kernel_rfl) (by kernel_rfl) (fun _ _ _ h => h) (Or.inr ⟨by rfl, rfl⟩) hHeld ?_; try simp only [Act.put, List.setIfInBounds_toArray, List.set_cons_zero, List.set_cons_succ])
                    (refine wpAnyC_take [15] (i := 6) (oi := ⟨some 157, _, _, _, _, _⟩) (v := undef) rfl (by kernel_rfl) (by kernel_rfl) (by kernel_rfl) (by kernel_rfl) (fun _ _ _ h => h) (Or.inr ⟨by rfl, rfl⟩) hHeld ?_; try simp only [Act.put, List.setIfInBounds_toArray, List.set_cons_zero, List.set_cons_succ])
                    (refine wpAnyC_take [15] (i := 7) (oi := ⟨some 158, _, _, _, _, _⟩) (v := undef) rfl (by kernel_rfl) (by kernel_rfl) (by kernel_rfl) (by kernel_rfl) (fun _ _ _ h => h) (Or.inr ⟨by rfl, rfl⟩) hHeld ?_; try simp only [Act.put, List.setIfInBounds_toArray, List.set_cons_zero, List.set_cons_succ])
                    (refine wpAnyC_take [15] (i := 8) (oi := ⟨some 159, _, _, _, _, _⟩) (v := undef) rfl (by kernel_rfl) (by kernel_rfl) (by kernel_rfl) (by kernel_rfl) (fun _ _ _ h => h) (Or.inr ⟨by rfl, rfl⟩) hHeld ?_; try simp only [Act.put, List.setIfInBounds_toArray, List.set_cons_zero, List.set_cons_succ])
                    (refine wpAnyC_take [15] (i := 9) (oi := ⟨some 160, _, _, _, _, _⟩) (v := undef) rfl (by kernel_rfl) (by kernel_rfl) (by kernel_rfl) (by kernel_rfl) (fun _ _ _ h => h) (Or.inr ⟨by rfl, rfl⟩) hHeld ?_; try simp only [Act.put, List.setIfInBounds_toArray, List.set_cons_zero, List.set_cons_succ])
                    (refine wpAnyC_take [15] (i := 10) (oi := ⟨some 161, _, _, _, _, _⟩) (v := undef) rfl (by kernel_rfl) (by kernel_rfl) (by kernel_rfl) (by kernel_rfl) (fun _ _ _ h => h) (Or.inr ⟨by rfl, rfl⟩) hHeld ?_; try simp only [Act.put, List.setIfInBounds_toArray, List.set_cons_zero, List.set_cons_succ])
                    (refine wpAnyC_take [15] (i := 11) (oi := ⟨some 162, _, _, _, _, _⟩) (v := undef) rfl (by kernel_rfl) (by kernel_rfl) (by kernel_rfl) (by kernel_rfl) (fun _ _ _ h => h) (Or.inr ⟨by rfl, rfl⟩) hHeld ?_; try simp only [Act.put, List.setIfInBounds_toArray, List.set_cons_zero, List.set_cons_succ])
                    (refine wpAnyC_take [15] (i := 12) (oi := ⟨some 163, _, _, _, _, _⟩) (v := undef) rfl (by kernel_rfl) (by kernel_rfl) (by kernel_rfl) (by kernel_rfl) (fun _ _ _ h => h) (Or.inr ⟨by rfl, rfl⟩) hHeld ?_; try simp only [Act.put, List.setIfInBounds_toArray, List.set_cons_zero, List.set_cons_succ])
                    (refine wpAnyC_take [15] (i := 13) (oi := ⟨some 164, _, _, _, _, _⟩) (v := undef) rfl (by kernel_rfl) (by kernel_rfl) (by kernel_rfl) (by kernel_rfl) (fun _ _ _ h => h) (Or.inr ⟨by rfl, rfl⟩) hHeld ?_; try simp only [Act.put, List.setIfInBounds_toArray, List.set_cons_zero, List.set_cons_succ])
                    (refine wpAnyC_take [15] (i := 14) (oi := ⟨some 165, _, _, _, _, _⟩) (v := ?_) rfl (by kernel_rfl) (by kernel_rfl) (by kernel_rfl) (by kernel_rfl) (fun _ _ _ h => h) (Or.inl ⟨by rfl, ?_⟩) hHeld ?_; rotate_left; (focus (intro w hSw; (skip); go_simp; first | done | with_reducible rfl)); try simp only [Act.put, List.setIfInBounds_toArray, List.set_cons_zero, List.set_cons_succ])
                    refine wpAnyC_c (oi := ⟨some 20, _, _, _, _, _⟩) rfl (by kernel_rfl) (fun K hK => ?_)
                    rw [if_pos (by rfl)]
                    go_simp
                    refine hK.out _ _ ?_
                    clear hK K
                    try simp only [Act.put, List.setIfInBounds_toArray, List.set_cons_zero, List.set_cons_succ]
                    refine wpAny_done (by kernel_rfl) ?_ _
                    have HX9 := Lib.hid (hX.out.trans hHeld)
                    clear hHeld
                    go_wp2
                    exact ⟨⟨k + 1, by omega, by go_num, by rw [HNT.out], HX9⟩, by simp [intOf]; omega⟩
                  | false =>
                    rw [Bool.false_or] at hnt
                    by_cases e : y.key = x.key
                    · have eb : (y.key == x.key) = true := by rw [beq_iff_eq]; exact e
                      rw [decide_eq_true e] at hnt
                      have HNT := Lib.hid hnt
                      clear hnt e
                      go_upto_region 29 with fail
                      have hHeld := Ext.of_drew wr
                      refine wp_region_C (fun w' => Ext wr w') 15 (by kernel_rfl) ?_
                      (refine wpAnyC_take [15] (i := 0) (oi := ⟨some 151, _, _, _, _, _⟩) (v := ?_) rfl (by kernel_rfl) (by kernel_rfl) (by kernel_rfl) (by kernel_rfl) (fun _ _ _ h => h) (Or.inl ⟨by rfl, ?_⟩) hHeld ?_; rotate_left; (focus (intro w hSw; (skip); go_simp; first | done | with_reducible rfl)); try simp only [Act.put, List.setIfInBounds_toArray, List.set_cons_zero, List.set_cons_succ])
                      (refine wpAnyC_take [15] (i := 1) (oi := ⟨some 152, _, _, _, _, _⟩) (v := ?_) rfl (by kernel_rfl) (by kernel_rfl) (by kernel_rfl) (by kernel_rfl) (fun _ _ _ h => h) (Or.inl ⟨by rfl, ?_⟩) hHeld ?_; rotate_left; (focus (intro w hSw; (skip); go_simp; first | done | with_reducible rfl)); try simp only [Act.put, List.setIfInBounds_toArray, List.set_cons_zero, List.set_cons_succ])
                      (refine wpAnyC_take [15] (i := 2) (oi := ⟨some 153, _, _, _, _, _⟩) (v := ?_) rfl (by kernel_rfl) (by kernel_rfl) (by kernel_rfl) (by kernel_rfl) (fun _ _ _ h => h) (Or.inl ⟨by rfl, ?_⟩) hHeld ?_; rotate_left; (focus (intro w hSw; (skip); go_simp; first | done | with_reducible rfl)); try simp only [Act.put, List.setIfInBounds_toArray, List.set_cons_zero, List.set_cons_succ])
                      (refine wpAnyC_take [15] (i := 3) (oi := ⟨some 154, _, _, _, _, _⟩) (v := ?_) rfl (by kernel_rfl) (by kernel_rfl) (by kernel_rfl) (by kernel_rfl) (fun _ _ _ h => h) (Or.inl ⟨by rfl, ?_⟩) hHeld ?_; rotate_left; (focus (intro w hSw; (skip); go_simp; first | done | with_reducible rfl)); try simp only [Act.put, List.setIfInBounds_toArray, List.set_cons_zero, List.set_cons_succ])
                      (refine wpAnyC_take [15] (i := 4) (oi := ⟨some 155, _, _, _, _, _⟩) (v := ?_) rfl (by kernel_rfl) (by kernel_rfl) (by kernel_rfl) (by kernel_rfl) (fun _ _ _ h => h) (Or.inl ⟨by rfl, ?_⟩) hHeld ?_; rotate_left; (focus (intro w hSw; (skip); go_simp; first | done | with_reducible rfl)); try simp only [Act.put, List.setIfInBounds_toArray, List.set_cons_zero, List.set_cons_succ])
                      (refine wpAnyC_take [15] (i := 5) (oi := ⟨some 156, _, _, _, _, _⟩) (v := ?_) rfl (by kernel_rfl) (by kernel_rfl) (by kernel_rfl) (by kernel_rfl) (fun _ _ _ h => h) (Or.inl ⟨by rfl, ?_⟩) hHeld ?_; rotate_left; (focus (intro w hSw; (skip); go_simp; first | done | with_reducible rfl)); try simp only [Act.put, List.setIfInBounds_toArray, List.set_cons_zero, List.set_cons_succ])
                      (refine wpAnyC_take [15] (i := 6) (oi := ⟨some 157, _, _, _, _, _⟩) (v := ?_) rfl (by kernel_rfl) (by kernel_rfl) (by kernel_rfl) (by kernel_rfl) (fun _ _ _ h => h) (Or.inl ⟨by rfl, ?_⟩) hHeld ?_; rotate_left; (focus (intro w hSw; ((have q := hSw.cell y0)); go_simp; first | done | with_reducible rfl)); try simp only [Act.put, List.setIfInBounds_toArray, List.set_cons_zero, List.set_cons_succ])
                      (refine wpAnyC_take [15] (i := 7) (oi := ⟨some 158, _, _, _, _, _⟩) (v := ?_) rfl (by kernel_rfl) (by kernel_rfl) (by kernel_rfl) (by kernel_rfl) (fun _ _ _ h => h) (Or.inl ⟨by rfl, ?_⟩) hHeld ?_; rotate_left; (focus (intro w hSw; (skip); go_simp; first | done | with_reducible rfl)); try simp only [Act.put, List.setIfInBounds_toArray, List.set_cons_zero, List.set_cons_succ])
                      (refine wpAnyC_take [15] (i := 8) (oi := ⟨some 159, _, _, _, _, _⟩) (v := ?_) rfl (by kernel_rfl) (by kernel_rfl) (by kernel_rfl) (by kernel_rfl) (fun _ _ _ h => h) (Or.inl ⟨by rfl, ?_⟩) hHeld ?_; rotate_left; (focus (intro w hSw; ((have q := hSw.cell m9)); go_simp; first | done | with_reducible rfl)); try simp only [Act.put, List.setIfInBounds_toArray, List.set_cons_zero, List.set_cons_succ])
                      (refine wpAnyC_take [15] (i := 9) (oi := ⟨some 160, _, _, _, _, _⟩) (v := ?_) rfl (by kernel_rfl) (by kernel_rfl) (by kernel_rfl) (by kernel_rfl) (fun _ _ _ h => h) (Or.inl ⟨by rfl, ?_⟩) hHeld ?_; rotate_left; (focus (intro w hSw; (skip); go_simp; first | done | with_reducible rfl)); try simp only [Act.put, List.setIfInBounds_toArray, List.set_cons_zero, List.set_cons_succ])
                      (refine wpAnyC_take [15] (i := 10) (oi := ⟨some 161, _, _, _, _, _⟩) (v := ?_) rfl (by kernel_rfl) (by kernel_rfl) (by kernel_rfl) (by kernel_rfl) (fun _ _ _ h => h) (Or.inl ⟨by rfl, ?_⟩) hHeld ?_; rotate_left; (focus (intro w hSw; (skip); go_simp; first | done | with_reducible rfl)); try simp only [Act.put, List.setIfInBounds_toArray, List.set_cons_zero, List.set_cons_succ])
                      (refine wpAnyC_take [15] (i := 11) (oi := ⟨some 162, _, _, _, _, _⟩) (v := ?_) rfl (by kernel_rfl) (by kernel_rfl) (by kernel_rfl) (by kernel_rfl) (fun _ _ _ h => h) (Or.inl ⟨by rfl, ?_⟩) hHeld ?_; rotate_left; (focus (intro w hSw; (skip); go_simp; first | done | with_reducible rfl)); try simp only [Act.put, List.setIfInBounds_toArray, List.set_cons_zero, List.set_cons_succ])
                      (refine wpAnyC_take [15] (i := 12) (oi := ⟨some 163, _, _, _, _, _⟩) (v := ?_) rfl (by kernel_rfl) (by kernel_rfl) (by kernel_rfl) (by kernel_rfl) (fun _ _ _ h => h) (Or.inl ⟨by rfl, ?_⟩) hHeld ?_; rotate_left; (focus (intro w hSw; ((have q := hSw.cell p0)); go_simp; first | done | with_reducible rfl)); try simp only [Act.put, List.setIfInBounds_toArray, List.set_cons_zero, List.set_cons_succ])
                      (refine wpAnyC_take [15] (i := 13) (oi := ⟨some 164, _, _, _, _, _⟩) (v := ?_) rfl (by kernel_rfl) (by kernel_rfl) (by kernel_rfl) (by kernel_rfl) (fun _ _ _ h => h) (Or.inl ⟨by rfl, ?_⟩) hHeld ?_; rotate_left; (focus (intro w hSw; (skip); go_simp; first | done | with_reducible rfl)); try simp only [Act.put, List.setIfInBounds_toArray, List.set_cons_zero, List.set_cons_succ])
                      (refine wpAnyC_take [15] (i := 14) (oi := ⟨some 165, _, _, _, _, _⟩) (v := ?_) rfl (by kernel_rfl) (by kernel_rfl) (by kernel_rfl) (by kernel_rfl) (fun _ _ _ h => h) (Or.inl ⟨by rfl, ?_⟩) hHeld ?_; rotate_left; (focus (intro w hSw; (skip); go_simp; first | done | with_reducible rfl)); try simp only [Act.put, List.setIfInBounds_toArray, List.set_cons_zero, List.set_cons_succ])
                      refine wpAnyC_c (oi := ⟨some 20, _, _, _, _, _⟩) rfl (by kernel_rfl) (fun K hK => ?_)
                      rw [if_pos (by rfl)]
                      go_simp
                      refine hK.out _ _ ?_
                      clear hK K
                      try simp only [Act.put, List.setIfInBounds_toArray, List.set_cons_zero, List.set_cons_succ]
                      refine wpAny_done (by kernel_rfl) ?_ _
                      have HX9 := Lib.hid (hX.out.trans hHeld)
                      clear hHeld
                      go_wp2
                      exact ⟨⟨k + 1, by omega, by go_num, by rw [HNT.out], HX9⟩, by simp [intOf]; omega⟩
                    · have eb : (y.key == x.key) = false := by rw [beq_eq_false_iff_ne]; exact e
                      rw [decide_eq_false e] at hnt
                      have HNT := Lib.hid hnt
                      clear hnt e
                      go_upto_region 29 with fail
                      have hHeld := Ext.of_drew wr
                      refine wp_region_C (fun w' => Ext wr w') 15 (by kernel_rfl) ?_
                      (refine wpAnyC_take [15] (i := 0) (oi := ⟨some 151, _, _, _, _, _⟩) (v := ?_) rfl (by kernel_rfl) (by kernel_rfl) (by kernel_rfl) (by kernel_rfl) (fun _ _ _ h => h) (Or.inl ⟨by rfl, ?_⟩) hHeld ?_; rotate_left; (focus (intro w hSw; (skip); go_simp; first | done | with_reducible rfl)); try simp only [Act.put, List.setIfInBounds_toArray, List.set_cons_zero, List.set_cons_succ])
                      (refine wpAnyC_take [15] (i := 1) (oi := ⟨some 152, _, _, _, _, _⟩) (v := ?_) rfl (by kernel_rfl) (by kernel_rfl) (by kernel_rfl) (by kernel_rfl) (fun _ _ _ h => h) (Or.inl ⟨by rfl, ?_⟩) hHeld ?_; rotate_left; (focus (intro w hSw; (skip); go_simp; first | done | with_reducible rfl)); try simp only [Act.put, List.setIfInBounds_toArray, List.set_cons_zero, List.set_cons_succ])
                      (refine wpAnyC_take [15] (i := 2) (oi := ⟨some 153, _, _, _, _, _⟩) (v := ?_) rfl (by kernel_rfl) (by kernel_rfl) (by kernel_rfl) (by kernel_rfl) (fun _ _ _ h => h) (Or.inl ⟨by rfl, ?_⟩) hHeld ?_; rotate_left; (focus (intro w hSw; (skip); go_simp; first | done | with_reducible rfl)); try simp only [Act.put, List.setIfInBounds_toArray, List.set_cons_zero, List.set_cons_succ])
                      (refine wpAnyC_take [15] (i := 3) (oi := ⟨some 154, _, _, _, _, _⟩) (v := ?_) rfl (by kernel_rfl) (by kernel_rfl) (by kernel_rfl) (by kernel_rfl) (fun _ _ _ h => h) (Or.inl ⟨by rfl, ?_⟩) hHeld ?_; rotate_left; (focus (intro w hSw; (skip); go_simp; first | done | with_reducible rfl)); try simp only [Act.put, List.setIfInBounds_toArray, List.set_cons_zero, List.set_cons_succ])
                      (refine wpAnyC_take [15] (i := 4) (oi := ⟨some 155, _, _, _, _, _⟩) (v := ?_) rfl (by kernel_rfl) (by kernel_rfl) (by kernel_rfl) (by kernel_rfl) (fun _ _ _ h => h) (Or.inl ⟨by rfl, ?_⟩) hHeld ?_; rotate_left; (focus (intro w hSw; (skip); go_simp; first | done | with_reducible rfl)); try simp only [Act.put, List.setIfInBounds_toArray, List.set_cons_zero, List.set_cons_succ])
                      (refine wpAnyC_take [15] (i := 5) (oi := ⟨some 156, _, _, _, _, _⟩) (v := ?_) rfl (by kernel_rfl) (by kernel_rfl) (by kernel_rfl) (by kernel_rfl) (fun _ _ _ h => h) (Or.inl ⟨by rfl, ?_⟩) hHeld ?_; rotate_left; (focus (intro w hSw; (skip); go_simp; first | done | with_reducible rfl)); try simp only [Act.put, List.setIfInBounds_toArray, List.set_cons_zero, List.set_cons_succ])
                      (refine wpAnyC_take [15] (i := 6) (oi := ⟨some 157, _, _, _, _, _⟩) (v := ?_) rfl (by kernel_rfl) (by kernel_rfl) (by kernel_rfl) (by kernel_rfl) (fun _ _ _ h => h) (Or.inl ⟨by rfl, ?_⟩) hHeld ?_; rotate_left; (focus (intro w hSw; ((have q := hSw.cell y0)); go_simp; first | done | with_reducible rfl)); try simp only [Act.put, List.setIfInBounds_toArray, List.set_cons_zero, List.set_cons_succ])
                      (refine wpAnyC_take [15] (i := 7) (oi := ⟨some 158, _, _, _, _, _⟩) (v := ?_) rfl (by kernel_rfl) (by kernel_rfl) (by kernel_rfl) (by kernel_rfl) (fun _ _ _ h => h) (Or.inl ⟨by rfl, ?_⟩) hHeld ?_; rotate_left; (focus (intro w hSw; (skip); go_simp; first | done | with_reducible rfl)); try simp only [Act.put, List.setIfInBounds_toArray, List.set_cons_zero, List.set_cons_succ])
                      (refine wpAnyC_take [15] (i := 8) (oi := ⟨some 159, _, _, _, _, _⟩) (v := ?_) rfl (by kernel_rfl) (by kernel_rfl) (by kernel_rfl) (by kernel_rfl) (fun _ _ _ h => h) (Or.inl ⟨by rfl, ?_⟩) hHeld ?_; rotate_left; (focus (intro w hSw; ((have q := hSw.cell m9)); go_simp; first | done | with_reducible rfl)); try simp only [Act.put, List.setIfInBounds_toArray, List.set_cons_zero, List.set_cons_succ])
                      (refine wpAnyC_take [15] (i := 9) (oi := ⟨some 160, _, _, _, _, _⟩) (v := ?_) rfl (by kernel_rfl) (by kernel_rfl) (by kernel_rfl) (by kernel_rfl) (fun _ _ _ h => h) (Or.inl ⟨by rfl, ?_⟩) hHeld ?_; rotate_left; (focus (intro w hSw; (skip); go_simp; first | done | with_reducible rfl)); try simp only [Act.put, List.setIfInBounds_toArray, List.set_cons_zero, List.set_cons_succ])
                      (refine wpAnyC_take [15] (i := 10) (oi := ⟨some 161, _, _, _, _, _⟩) (v := ?_) rfl (by kernel_rfl) (by kernel_rfl) (by kernel_rfl) (by kernel_rfl) (fun _ _ _ h => h) (Or.inl ⟨by rfl, ?_⟩) hHeld ?_; rotate_left; (focus (intro w hSw; (skip); go_simp; first | done | with_reducible rfl)); try simp only [Act.put, List.setIfInBounds_toArray, List.set_cons_zero, List.set_cons_succ])
                      (refine wpAnyC_take [15] (i := 11) (oi := ⟨some 162, _, _, _, _, _⟩) (v := ?_) rfl (by kernel_rfl) (by kernel_rfl) (by kernel_rfl) (by kernel_rfl) (fun _ _ _ h => h) (Or.inl ⟨by rfl, ?_⟩) hHeld ?_; rotate_left; (focus (intro w hSw; (skip); go_simp; first | done | with_reducible rfl)); try simp only [Act.put, List.setIfInBounds_toArray, List.set_cons_zero, List.set_cons_succ])
                      (refine wpAnyC_take [15] (i := 12) (oi := ⟨some 163, _, _, _, _, _⟩) (v := ?_) rfl (by kernel_rfl) (by kernel_rfl) (by kernel_rfl) (by kernel_rfl) (fun _ _ _ h => h) (Or.inl ⟨by rfl, ?_⟩) hHeld ?_; rotate_left; (focus (intro w hSw; ((have q := hSw.cell p0)); go_simp; first | done | with_reducible rfl)); try simp only [Act.put, List.setIfInBounds_toArray, List.set_cons_zero, List.set_cons_succ])
                      (refine wpAnyC_take [15] (i := 13) (oi := ⟨some 164, _, _, _, _, _⟩) (v := ?_) rfl (by kernel_rfl) (by kernel_rfl) (by kernel_rfl) (by kernel_rfl) (fun _ _ _ h => h) (Or.inl ⟨by rfl, ?_⟩) hHeld ?_; rotate_left; (focus (intro w hSw; (skip); go_simp; first | done | with_reducible rfl)); try simp only [Act.put, List.setIfInBounds_toArray, List.set_cons_zero, List.set_cons_succ])
                      (refine wpAnyC_take [15] (i := 14) (oi := ⟨some 165, _, _, _, _, _⟩) (v := ?_) rfl (by kernel_rfl) (by kernel_rfl) (by kernel_rfl) (by kernel_rfl) (fun _ _ _ h => h) (Or.inl ⟨by rfl, ?_⟩) hHeld ?_; rotate_left; (focus (intro w hSw; (skip); go_simp; first | done | with_reducible rfl)); try simp only [Act.put, List.setIfInBounds_toArray, List.set_cons_zero, List.set_cons_succ])
                      refine wpAnyC_c (oi := ⟨some 20, _, _, _, _, _⟩) rfl (by kernel_rfl) (fun K hK => ?_)
                      rw [if_pos (by rfl)]
                      go_simp
                      refine hK.out _ _ ?_
                      clear hK K
                      try simp only [Act.put, List.setIfInBounds_toArray, List.set_cons_zero, List.set_cons_succ]
                      refine wpAny_done (by kernel_rfl) ?_ _
                      have HX9 := Lib.hid (hX.out.trans hHeld)
                      clear hHeld
                      go_wp2
                      exact ⟨⟨k + 1, by omega, by go_num, by rw [HNT.out], HX9⟩, by simp [intOf]; omega⟩
                · have hgek : ¬ (k : Int) < (ws.length : Int) := by omega
                  rw [List.take_of_length_le (by omega : ws.length ≤ k)]
                  have m9w := hX.out.cell m9
                  have c0 := hX.out.cell p0
                  have c1 := hX.out.cell p1
                  have c2 := hX.out.cell p2
                  have HBX := Lib.hid (fun W (hW : Ext wr W) => HN7.out.ext (hX.out.trans hW))
                  have HTC2 := HTC
                  cases hnm : S6.named ws x.key with
                  | true =>
                    have hg := fun W (hW : Ext wr W) => HGT.out W x.key (hX.out.trans hW)
                    unfold gotV strV at hg
                    generalize S6.look T.l x.key = r at hg
                    generalize ((r.map (fun p => p.val)).getD []) = vv at hg
                    generalize ((r.map (fun p => p.ver)).getD 0) = vo at hg
                    generalize r.isSome = vs at hg
                    have HG := Lib.hid hg
                    rw [hnm] at HTC
                    clear hg hnm
                    go_wp2_with fail
                    have hHeld := Ext.of_drew wr
                    refine wp_region_C (fun w' => Ext wr w') 7 (by kernel_rfl) ?_
                    (refine wpAnyC_take [7] (i := 0) (oi := ⟨some 167, _, _, _, _, _⟩) (v := ?_) rfl (by kernel_rfl) (by kernel_rfl) (by kernel_rfl) (by kernel_rfl) (fun _ _ _ h => h) (Or.inl ⟨by rfl, ?_⟩) hHeld ?_; rotate_left; (focus (intro w hSw; ((obtain ⟨qa, qb, qc, qd, qe, qf, qg, qh, qi, qj, qk, ql⟩ := HBX.out _ hSw)); go_simp; first | done | with_reducible rfl)); try simp only [Act.put, List.setIfInBounds_toArray, List.set_cons_zero, List.set_cons_succ])
                    (refine wpAnyC_take [2, 4, 5, 6, 7] (i := 1) (oi := ⟨some 168, _, _, _, _, _⟩) (v := ?_) rfl (by kernel_rfl) (by kernel_rfl) (by kernel_rfl) (by kernel_rfl) (fun _ _ _ h => h) (Or.inl ⟨by rfl, ?_⟩) hHeld ?_; rotate_left; (focus (intro w hSw; (skip); go_simp; first | done | with_reducible rfl)); try simp only [Act.put, List.setIfInBounds_toArray, List.set_cons_zero, List.set_cons_succ])
                    (refine wpAnyC_take [4, 5, 6, 7] (i := 2) (oi := ⟨some 169, _, _, _, _, _⟩) (v := ?_) rfl (by kernel_rfl) (by kernel_rfl) (by kernel_rfl) (by kernel_rfl) (fun _ _ _ h => h) (Or.inl ⟨by rfl, ?_⟩) hHeld ?_; rotate_left; (focus (intro w hSw; ((have q := hSw.cell m9w)); go_simp; first | done | with_reducible rfl)); try simp only [Act.put, List.setIfInBounds_toArray, List.set_cons_zero, List.set_cons_succ])
                    (refine wpAnyC_take [4, 5, 6, 7] (i := 3) (oi := ⟨some 170, _, _, _, _, _⟩) (v := ?_) rfl (by kernel_rfl) (by kernel_rfl) (by kernel_rfl) (by kernel_rfl) (fun _ _ _ h => h) (Or.inl ⟨by rfl, ?_⟩) hHeld ?_; rotate_left; (focus (intro w hSw; (skip); go_simp; first | done | with_reducible rfl)); try simp only [Act.put, List.setIfInBounds_toArray, List.set_cons_zero, List.set_cons_succ])
                    (refine wpAnyC_take [5, 6, 7] (i := 4) (oi := ⟨some 171, _, _, _, _, _⟩) (v := ?_) rfl (by kernel_rfl) (by kernel_rfl) (by kernel_rfl) (by kernel_rfl) (fun _ _ _ h => h) (Or.inl ⟨by rfl, ?_⟩) hHeld ?_; rotate_left; (focus (intro w hSw; (skip); go_simp; first | done | with_reducible rfl)); try simp only [Act.put, List.setIfInBounds_toArray, List.set_cons_zero, List.set_cons_succ])
                    (refine wpAnyC_take [6, 7] (i := 5) (oi := ⟨some 172, _, _, _, _, _⟩) (v := ?_) rfl (by kernel_rfl) (by kernel_rfl) (by kernel_rfl) (by kernel_rfl) (fun _ _ _ h => h) (Or.inl ⟨by rfl, ?_⟩) hHeld ?_; rotate_left; (focus (intro w hSw; (skip); go_simp; first | done | with_reducible rfl)); try simp only [Act.put, List.setIfInBounds_toArray, List.set_cons_zero, List.set_cons_succ])
                    (refine wpAnyC_take [7] (i := 6) (oi := ⟨some 173, _, _, _, _, _⟩) (v := ?_) rfl (by kernel_rfl) (by kernel_rfl) (by kernel_rfl) (by kernel_rfl) (fun _ _ _ h => h) (Or.inl ⟨by rfl, ?_⟩) hHeld ?_; rotate_left; (focus (intro w hSw; ((have q := hSw.cell c0)); go_simp; first | done | with_reducible rfl)); try simp only [Act.put, List.setIfInBounds_toArray, List.set_cons_zero, List.set_cons_succ])
                    refine wpAnyC_c (oi := ⟨some 174, _, _, _, _, _⟩) rfl (by kernel_rfl) (fun K hK => ?_)
                    rw [if_pos (by rfl)]
                    go_simp
                    refine (HG.out _ hHeld).mono ?_
                    rintro e w8 ⟨rfl, hx8⟩
                    refine hK.out _ _ ?_
                    clear hK K
                    try simp only [Act.put, List.setIfInBounds_toArray, List.set_cons_zero, List.set_cons_succ]
                    (refine wpAny_take (i := 8) (oi := ⟨some 166, _, _, _, _, _⟩) (v := ?_) rfl (by kernel_rfl) (by kernel_rfl) (by kernel_rfl) (fun _ _ _ h => h) (Or.inl ⟨by rfl, ?_⟩) ?_; rotate_left; (focus (intro w; go_simp; first | done | with_reducible rfl)); try simp only [Act.put, List.setIfInBounds_toArray, List.set_cons_zero, List.set_cons_succ])
                    (refine wpAny_take (i := 9) (oi := ⟨some 175, _, _, _, _, _⟩) (v := ?_) rfl (by kernel_rfl) (by kernel_rfl) (by kernel_rfl) (fun _ _ _ h => h) (Or.inl ⟨by rfl, ?_⟩) ?_; rotate_left; (focus (intro w; go_simp; first | done | with_reducible rfl)); try simp only [Act.put, List.setIfInBounds_toArray, List.set_cons_zero, List.set_cons_succ])
                    (refine wpAny_take (i := 10) (oi := ⟨some 176, _, _, _, _, _⟩) (v := ?_) rfl (by kernel_rfl) (by kernel_rfl) (by kernel_rfl) (fun _ _ _ h => h) (Or.inl ⟨by rfl, ?_⟩) ?_; rotate_left; (focus (intro w; go_simp; first | done | with_reducible rfl)); try simp only [Act.put, List.setIfInBounds_toArray, List.set_cons_zero, List.set_cons_succ])
                    (refine wpAny_take (i := 11) (oi := ⟨some 177, _, _, _, _, _⟩) (v := ?_) rfl (by kernel_rfl) (by kernel_rfl) (by kernel_rfl) (fun _ _ _ h => h) (Or.inl ⟨by rfl, ?_⟩) ?_; rotate_left; (focus (intro w; go_simp; first | done | with_reducible rfl)); try simp only [Act.put, List.setIfInBounds_toArray, List.set_cons_zero, List.set_cons_succ])
                    (refine wpAny_take (i := 12) (oi := ⟨some 22, _, _, _, _, _⟩) (v := ?_) rfl (by kernel_rfl) (by kernel_rfl) (by kernel_rfl) (fun _ _ _ h => h) (Or.inl ⟨by rfl, ?_⟩) ?_; rotate_left; (focus (intro w; go_simp; first | done | with_reducible rfl)); try simp only [Act.put, List.setIfInBounds_toArray, List.set_cons_zero, List.set_cons_succ])
                    (refine wpAny_take (i := 13) (oi := ⟨some 23, _, _, _, _, _⟩) (v := ?_) rfl (by kernel_rfl) (by kernel_rfl) (by kernel_rfl) (fun _ _ _ h => h) (Or.inl ⟨by rfl, ?_⟩) ?_; rotate_left; (focus (intro w; go_simp; first | done | with_reducible rfl)); try simp only [Act.put, List.setIfInBounds_toArray, List.set_cons_zero, List.set_cons_succ])
                    (refine wpAny_take (i := 14) (oi := ⟨some 24, _, _, _, _, _⟩) (v := ?_) rfl (by kernel_rfl) (by kernel_rfl) (by kernel_rfl) (fun _ _ _ h => h) (Or.inl ⟨by rfl, ?_⟩) ?_; rotate_left; (focus (intro w; go_simp; first | done | with_reducible rfl)); try simp only [Act.put, List.setIfInBounds_toArray, List.set_cons_zero, List.set_cons_succ])
                    refine wpAny_done (by kernel_rfl) ?_ _
                    have HX9 := Lib.hid (hX.out.trans (hHeld.trans hx8))
                    clear hHeld hx8
                    go_wp2
                    exact ⟨⟨j + 1, by omega, by go_num, by rw [HTC.out]; simp, HX9⟩, by simp [intOf]; omega⟩
                  | false =>
                    have hg := fun W (hW : Ext wr W) => HGT.out W x.key (hX.out.trans hW)
                    rw [HLN2.out hnm] at hg
                    rw [show gotV (some x) = .tuple #[.string ⟨x.val.toArray⟩, .int .u64 (x.ver : Int), .bool true] from rfl] at hg
                    have HG := Lib.hid hg
                    rw [hnm] at HTC
                    have hwc : IntKind.i64.wrap ((c : Int) + 1) = ((c + 1 : Nat) : Int) := by rw [IntKind.wrap_i64]; omega
                    clear hg hnm
                    go_wp2_with fail
                    have hHeld := Ext.of_drew wr
                    refine wp_region_C (fun w' => Ext wr w') 7 (by kernel_rfl) ?_
                    (refine wpAnyC_take [7] (i := 0) (oi := ⟨some 167, _, _, _, _, _⟩) (v := ?_) rfl (by kernel_rfl) (by kernel_rfl) (by kernel_rfl) (by kernel_rfl) (fun _ _ _ h => h) (Or.inl ⟨by rfl, ?_⟩) hHeld ?_; rotate_left; (focus (intro w hSw; ((obtain ⟨qa, qb, qc, qd, qe, qf, qg, qh, qi, qj, qk, ql⟩ := HBX.out _ hSw)); go_simp; first | done | with_reducible rfl)); try simp only [Act.put, List.setIfInBounds_toArray, List.set_cons_zero, List.set_cons_succ])
                    (refine wpAnyC_take [2, 4, 5, 6, 7] (i := 1) (oi := ⟨some 168, _, _, _, _, _⟩) (v := ?_) rfl (by kernel_rfl) (by kernel_rfl) (by kernel_rfl) (by kernel_rfl) (fun _ _ _ h => h) (Or.inl ⟨by rfl, ?_⟩) hHeld ?_; rotate_left; (focus (intro w hSw; (skip); go_simp; first | done | with_reducible rfl)); try simp only [Act.put, List.setIfInBounds_toArray, List.set_cons_zero, List.set_cons_succ])
                    (refine wpAnyC_take [4, 5, 6, 7] (i := 2) (oi := ⟨some 169, _, _, _, _, _⟩) (v := ?_) rfl (by kernel_rfl) (by kernel_rfl) (by kernel_rfl) (by kernel_rfl) (fun _ _ _ h => h) (Or.inl ⟨by rfl, ?_⟩) hHeld ?_; rotate_left; (focus (intro w hSw; ((have q := hSw.cell m9w)); go_simp; first | done | with_reducible rfl)); try simp only [Act.put, List.setIfInBounds_toArray, List.set_cons_zero, List.set_cons_succ])
                    (refine wpAnyC_take [4, 5, 6, 7] (i := 3) (oi := ⟨some 170, _, _, _, _, _⟩) (v := ?_) rfl (by kernel_rfl) (by kernel_rfl) (by kernel_rfl) (by kernel_rfl) (fun _ _ _ h => h) (Or.inl ⟨by rfl, ?_⟩) hHeld ?_; rotate_left; (focus (intro w hSw; (skip); go_simp; first | done | with_reducible rfl)); try simp only [Act.put, List.setIfInBounds_toArray, List.set_cons_zero, List.set_cons_succ])
                    (refine wpAnyC_take [5, 6, 7] (i := 4) (oi := ⟨some 171, _, _, _, _, _⟩) (v := ?_) rfl (by kernel_rfl) (by kernel_rfl) (by kernel_rfl) (by kernel_rfl) (fun _ _ _ h => h) (Or.inl ⟨by rfl, ?_⟩) hHeld ?_; rotate_left; (focus (intro w hSw; (skip); go_simp; first | done | with_reducible rfl)); try simp only [Act.put, List.setIfInBounds_toArray, List.set_cons_zero, List.set_cons_succ])
                    (refine wpAnyC_take [6, 7] (i := 5) (oi := ⟨some 172, _, _, _, _, _⟩) (v := ?_) rfl (by kernel_rfl) (by kernel_rfl) (by kernel_rfl) (by kernel_rfl) (fun _ _ _ h => h) (Or.inl ⟨by rfl, ?_⟩) hHeld ?_; rotate_left; (focus (intro w hSw; (skip); go_simp; first | done | with_reducible rfl)); try simp only [Act.put, List.setIfInBounds_toArray, List.set_cons_zero, List.set_cons_succ])
                    (refine wpAnyC_take [7] (i := 6) (oi := ⟨some 173, _, _, _, _, _⟩) (v := ?_) rfl (by kernel_rfl) (by kernel_rfl) (by kernel_rfl) (by kernel_rfl) (fun _ _ _ h => h) (Or.inl ⟨by rfl, ?_⟩) hHeld ?_; rotate_left; (focus (intro w hSw; ((have q := hSw.cell c0)); go_simp; first | done | with_reducible rfl)); try simp only [Act.put, List.setIfInBounds_toArray, List.set_cons_zero, List.set_cons_succ])
                    refine wpAnyC_c (oi := ⟨some 174, _, _, _, _, _⟩) rfl (by kernel_rfl) (fun K hK => ?_)
                    rw [if_pos (by rfl)]
                    go_simp
                    refine (HG.out _ hHeld).mono ?_
                    rintro e w8 ⟨rfl, hx8⟩
                    refine hK.out _ _ ?_
                    clear hK K
                    try simp only [Act.put, List.setIfInBounds_toArray, List.set_cons_zero, List.set_cons_succ]
                    (refine wpAny_take (i := 8) (oi := ⟨some 166, _, _, _, _, _⟩) (v := ?_) rfl (by kernel_rfl) (by kernel_rfl) (by kernel_rfl) (fun _ _ _ h => h) (Or.inl ⟨by rfl, ?_⟩) ?_; rotate_left; (focus (intro w; go_simp; first | done | with_reducible rfl)); try simp only [Act.put, List.setIfInBounds_toArray, List.set_cons_zero, List.set_cons_succ])
                    (refine wpAny_take (i := 9) (oi := ⟨some 175, _, _, _, _, _⟩) (v := ?_) rfl (by kernel_rfl) (by kernel_rfl) (by kernel_rfl) (fun _ _ _ h => h) (Or.inl ⟨by rfl, ?_⟩) ?_; rotate_left; (focus (intro w; go_simp; first | done | with_reducible rfl)); try simp only [Act.put, List.setIfInBounds_toArray, List.set_cons_zero, List.set_cons_succ])
                    (refine wpAny_take (i := 10) (oi := ⟨some 176, _, _, _, _, _⟩) (v := ?_) rfl (by kernel_rfl) (by kernel_rfl) (by kernel_rfl) (fun _ _ _ h => h) (Or.inl ⟨by rfl, ?_⟩) ?_; rotate_left; (focus (intro w; go_simp; first | done | with_reducible rfl)); try simp only [Act.put, List.setIfInBounds_toArray, List.set_cons_zero, List.set_cons_succ])
                    (refine wpAny_take (i := 11) (oi := ⟨some 177, _, _, _, _, _⟩) (v := ?_) rfl (by kernel_rfl) (by kernel_rfl) (by kernel_rfl) (fun _ _ _ h => h) (Or.inl ⟨by rfl, ?_⟩) ?_; rotate_left; (focus (intro w; go_simp; first | done | with_reducible rfl)); try simp only [Act.put, List.setIfInBounds_toArray, List.set_cons_zero, List.set_cons_succ])
                    (refine wpAny_take (i := 12) (oi := ⟨some 22, _, _, _, _, _⟩) (v := ?_) rfl (by kernel_rfl) (by kernel_rfl) (by kernel_rfl) (fun _ _ _ h => h) (Or.inl ⟨by rfl, ?_⟩) ?_; rotate_left; (focus (intro w; go_simp; first | done | with_reducible rfl)); try simp only [Act.put, List.setIfInBounds_toArray, List.set_cons_zero, List.set_cons_succ])
                    (refine wpAny_take (i := 13) (oi := ⟨some 23, _, _, _, _, _⟩) (v := ?_) rfl (by kernel_rfl) (by kernel_rfl) (by kernel_rfl) (fun _ _ _ h => h) (Or.inl ⟨by rfl, ?_⟩) ?_; rotate_left; (focus (intro w; go_simp; first | done | with_reducible rfl)); try simp only [Act.put, List.setIfInBounds_toArray, List.set_cons_zero, List.set_cons_succ])
                    (refine wpAny_take (i := 14) (oi := ⟨some 24, _, _, _, _, _⟩) (v := ?_) rfl (by kernel_rfl) (by kernel_rfl) (by kernel_rfl) (fun _ _ _ h => h) (Or.inl ⟨by rfl, ?_⟩) ?_; rotate_left; (focus (intro w; go_simp; first | done | with_reducible rfl)); try simp only [Act.put, List.setIfInBounds_toArray, List.set_cons_zero, List.set_cons_succ])
                    refine wpAny_done (by kernel_rfl) ?_ _
                    have HX8 := Lib.hid (hHeld.trans hx8)
                    have m9x := HX8.out.cell m9w
                    have d1 := HX8.out.cell c1
                    have d2 := HX8.out.cell c2
                    have HX9 := Lib.hid (hX.out.trans HX8.out)
                    clear hHeld hx8 c0 c1 c2 m9w HG HBX
                    go_wp2_with fail
                    exact ⟨⟨j + 1, by omega, by go_num, by rw [HTC.out]; simp, HX9⟩, by simp [intOf]; omega⟩
            · obtain rfl : j = S.l.length := by omega
              have hge : ¬ ((S.l.length : Nat) : Int) < (S.l.length : Int) := by omega
              have m9w := hX.out.cell m9
              rw [List.take_length]
              have hct := HCT.out
              have hcb : S.l.countP (fun p => !S6.named ws p.key) ≤ 2000 := Nat.le_trans List.countP_le_length (by omega)
              generalize S.l.countP (fun p => !S6.named ws p.key) = c at *
              have HCT2 := Lib.hid hct
              clear hct HCT
              go_wp2_with fail
              go_loopw [18, 25] (fun lv iv wj => ∃ k : Nat, k ≤ ws.length ∧ iv = .int .i64 (k : Int) ∧ lv = .int .i64 ((c + (ws.take k).countP (fun x => !x.drop) : Nat) : Int) ∧ Hid (Ext w7 wj)) (fun _ iv _ => ws.length - (intOf iv).toNat)
              case atStart => exact ⟨0, Nat.zero_le _, rfl, rfl, hX⟩
              case round =>
                clear hX hge hlt m9w
                obtain ⟨k, hk, rfl, rfl, hX⟩ := hrel
                by_cases hltk : k < ws.length
                · have hltki : (k : Int) < (ws.length : Int) := by omega
                  obtain ⟨yb, yo, rfl, -, -, y2, -⟩ := HYC.out k hltk
                  replace y2 := hX.out.cell y2
                  have htc := S6.take_count (fun x => !x.drop) ws k hltk
                  have hcb2 : (ws.take k).countP (fun x => !x.drop) ≤ 70 := by
                    have h1 := List.countP_le_length (p := fun x : S6.Wr => !x.drop) (l := ws.take k)
                    rw [List.length_take] at h1
                    have := HWL2.out
                    omega
                  generalize ws[k] = y at *
                  generalize hcc : (ws.take k).countP (fun x => !x.drop) = c2 at *
                  generalize y.drop = dr at *
                  have HTC := Lib.hid htc
                  obtain ⟨c3, hc3⟩ : ∃ c3, c3 = c + c2 := ⟨_, rfl⟩
                  have hwc : IntKind.i64.wrap ((c3 : Int) + 1) = ((c3 + 1 : Nat) : Int) := by rw [IntKind.wrap_i64]; omega
                  rw [← hc3]
                  have HC3 := Lib.hid hc3
                  clear htc hcc hc3
                  cases dr with
                  | true =>
                    go_wp2
                    exact ⟨⟨k + 1, by omega, by go_num, by rw [HTC.out, HC3.out]; simp, hX⟩, by simp [intOf]; omega⟩
                  | false =>
                    go_wp2
                    exact ⟨⟨k + 1, by omega, by go_num, by rw [HTC.out, HC3.out]; simp; omega, hX⟩, by simp [intOf]; omega⟩
                · have hgek : ¬ (k : Int) < (ws.length : Int) := by omega
                  rw [List.take_of_length_le (by omega : ws.length ≤ k), ← HCT2.out]
                  have n9w := hX.out.cell n9
                  have HX9 := Lib.hid (HX7.out.trans hX.out)
                  clear hX
                  go_wp2
                  go_ret
                  exact ⟨by simp, HX9.out⟩
end Go.Proofs.Ytnjfioikpajhlaa
