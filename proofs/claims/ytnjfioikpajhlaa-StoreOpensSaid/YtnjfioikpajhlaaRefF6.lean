import Derived.Test.YtnjfioikpajhlaaRefE6
/- The document's Batch, Image. -/
namespace Go.Proofs.Ytnjfioikpajhlaa
open Go.RowKit Go.Shelf

theorem el_str : Elem 31 9 1 16 := elem_of Try.underlying31 (by decide) (by decide) (by kernel_rfl)
theorem RWs.nil (w : World) : RWs w (.slice none 0 0) [] := ⟨none, 0, rfl, rfl, Nat.le_refl _, by unfold maxLen; omega, fun _ => rfl, (fun u hu => by cases hu), .inl rfl⟩
namespace S6
/-- Texts that the law's records bear. -/
def FitR (x : Wr) : Prop := x.key.length ≤ 140737488355328 ∧ x.val.length ≤ 140737488355328
theorem wrB_lenR (x : Wr) (h : FitR x) : (wrB x).length ≤ x.key.length + x.val.length + 21 := by
  have h1 := (W.vb_len10 x.key.length (by have := h.1; omega)).1
  have h2 := (W.vb_len10 x.val.length (by have := h.2; omega)).1
  unfold wrB
  cases x.drop <;> simp <;> omega
/-- The letters of some writes. -/
def lets (ws : List Wr) : Nat := (ws.map (fun x => x.key.length + x.val.length)).sum
theorem lets_le : ∀ (ws : List Wr) (k : Nat), lets (ws.take k) ≤ lets ws
  | [], k => by simp [lets]
  | x :: ws, 0 => by simp [lets]
  | x :: ws, k + 1 => by
    have := lets_le ws k
    unfold lets at this ⊢
    simp only [List.take_succ_cons, List.map_cons, List.sum_cons]
    omega
theorem wrsB_lenR : ∀ (ws : List Wr), (∀ x ∈ ws, FitR x) → (wrsB ws).length ≤ lets ws + ws.length * 21
  | [], _ => by simp [wrsB]
  | x :: ws, h => by
    have h1 := wrsB_lenR ws (fun y hy => h y (List.mem_cons_of_mem _ hy))
    have h2 := wrB_lenR x (h x List.mem_cons_self)
    rw [wrsB_cons, List.length_append]
    unfold lets at h1 ⊢
    simp only [List.map_cons, List.sum_cons, List.length_cons]
    omega
theorem batchTo_lenR (n : Nat) (ws : List Wr) (k : Nat) (hn : n < 18446744073709551616) (hl : ws.length ≤ 10000) (h : ∀ x ∈ ws, FitR x) : (batchTo n ws k).length ≤ 20 + lets ws + ws.length * 21 := by
  have h1 := (W.vb_len10 n hn).1
  have h2 := (W.vb_len10 ws.length (by omega)).1
  have h3 := wrsB_lenR (ws.take k) (fun x hx => h x (List.mem_of_mem_take hx))
  have h4 := lets_le ws k
  have h5 : (ws.take k).length ≤ ws.length := by rw [List.length_take]; omega
  unfold batchTo
  simp only [List.length_append]
  omega
theorem lets_bound : ∀ (ws : List Wr), (∀ x ∈ ws, FitR x) → lets ws ≤ ws.length * 281474976710656
  | [], _ => by simp [lets]
  | x :: ws, h => by
    have h1 := lets_bound ws (fun y hy => h y (List.mem_cons_of_mem _ hy))
    have h2 := h x List.mem_cons_self
    unfold FitR at h2
    unfold lets at h1 ⊢
    simp only [List.map_cons, List.sum_cons, List.length_cons]
    omega
end S6
set_option maxRecDepth 100000 in
set_option maxHeartbeats 6400000 in
theorem refBatch (w : World) (n : Nat) (yv : Value) (ws : List S6.Wr) (hy : RWs w yv ws) (hn : n < 18446744073709551616) (hwl : ws.length ≤ 10000) (hf : ∀ x ∈ ws, S6.FitR x) :
    Calls Try.prog 27 #[.int .u64 (n : Int), yv] w fun e w' => e = .returned (.string ⟨(S6.batchB n ws).toArray⟩) ∧ Ext w w' := by
  obtain ⟨_, ya, yc, rfl, hyc⟩ := hy.shape
  have HYC := Lib.hid hyc
  have hwli : (ws.length : Int) ≤ 10000 := by omega
  have HF := Lib.hid hf
  have HV1 := Lib.hid (fun U => refVar [] n U hn (by simp))
  have HV2 := Lib.hid (fun U => refVar ([] ++ W.vb n) ws.length U (by omega) (by have := (W.vb_len10 n hn).1; simp; omega))
  have hcv : IntKind.u64.wrap (ws.length : Int) = (ws.length : Int) := by rw [IntKind.wrap_u64]; omega
  clear hy hyc hf
  go_enter Try.func27, Try.ntmps27
  go_wp2_with fail
  refine (HV1.out _).mono ?_
  rintro e w1 ⟨rfl, hx1⟩
  have HX1 := Lib.hid hx1
  clear hx1 HV1
  go_wp2_with fail
  refine (HV2.out _).mono ?_
  rintro e w2 ⟨rfl, hx2⟩
  have HX2 := Lib.hid (HX1.out.trans hx2)
  have hb0 := S6.batchTo_zero n ws
  rw [List.nil_append, ← hb0]
  clear hx2 HV2 hb0 hcv HX1
  go_wp2_with fail
  go_loopw [5, 6] (fun sv iv wr => ∃ i : Nat, i ≤ ws.length ∧ iv = .int .i64 (i : Int) ∧ sv = .string ⟨(S6.batchTo n ws i).toArray⟩ ∧ Hid (Ext w wr)) (fun _ iv _ => ws.length - (intOf iv).toNat)
  case atStart => exact ⟨0, Nat.zero_le _, rfl, rfl, HX2⟩
  case round =>
    obtain ⟨i, hi, rfl, rfl, hX⟩ := hrel
    by_cases hlt : i < ws.length
    · have hlti : (i : Int) < (ws.length : Int) := by omega
      obtain ⟨yb, yo, rfl, y0, y1, y2, -⟩ := HYC.out i hlt
      replace y0 := hX.out.cell y0
      replace y1 := hX.out.cell y1
      replace y2 := hX.out.cell y2
      unfold strV at y0 y1
      obtain ⟨hk, hv⟩ := HF.out _ (List.getElem_mem hlt)
      have hsl := S6.batchTo_lenR n ws i hn hwl HF.out
      have hsl2 := S6.lets_bound ws HF.out
      have HSU := Lib.hid (S6.batchTo_succ n ws i hlt)
      generalize ws[i] = y at *
      generalize S6.batchTo n ws i = s at *
      have hk10 := (W.vb_len10 y.key.length (by omega)).1
      have hv10 := (W.vb_len10 y.val.length (by omega)).1
      have hv := fun U => refVar s y.key.length U (by omega) (by omega)
      have hck : IntKind.u64.wrap (y.key.length : Int) = (y.key.length : Int) := by rw [IntKind.wrap_u64]; omega
      have hcv : IntKind.u64.wrap (y.val.length : Int) = (y.val.length : Int) := by rw [IntKind.wrap_u64]; omega
      have hcs : (⟨y.key.toArray⟩ : ByteArray).size = y.key.length := by show y.key.toArray.size = _; rw [List.size_toArray]
      have hcs2 : (⟨y.val.toArray⟩ : ByteArray).size = y.val.length := by show y.val.toArray.size = _; rw [List.size_toArray]
      have hs1 : (⟨(s ++ W.vb y.key.length).toArray⟩ : ByteArray).size ≤ 4000000000000000000 := by show (s ++ W.vb y.key.length).toArray.size ≤ _; rw [List.size_toArray, List.length_append]; omega
      have hs2 : (⟨(s ++ W.vb y.key.length ++ y.key).toArray⟩ : ByteArray).size ≤ 4000000000000000000 := by show (s ++ W.vb y.key.length ++ y.key).toArray.size ≤ _; rw [List.size_toArray, List.length_append, List.length_append]; omega
      have hap := ba_append (s ++ W.vb y.key.length) y.key
      have hap0 := ba_push (s ++ W.vb y.key.length ++ y.key) 0
      have hap1 := ba_push (s ++ W.vb y.key.length ++ y.key) 1
      have hv3 := fun U => refVar (s ++ W.vb y.key.length ++ y.key ++ [1]) y.val.length U (by omega) (by simp; omega)
      have hs3 : (⟨((s ++ W.vb y.key.length ++ y.key ++ [1]) ++ W.vb y.val.length).toArray⟩ : ByteArray).size ≤ 4000000000000000000 := by show ((s ++ W.vb y.key.length ++ y.key ++ [1]) ++ W.vb y.val.length).toArray.size ≤ _; rw [List.size_toArray]; simp only [List.length_append, List.length_singleton]; omega
      have hap3 := ba_append ((s ++ W.vb y.key.length ++ y.key ++ [1]) ++ W.vb y.val.length) y.val
      have hwb : S6.wrB y = if y.drop = true then W.vb y.key.length ++ y.key ++ [0] else W.vb y.key.length ++ y.key ++ [1] ++ W.vb y.val.length ++ y.val := by unfold S6.wrB; cases y.drop <;> simp
      rw [hwb] at HSU
      rw [← hap1] at hv3
      have hf0 : y.drop = true → (⟨(s ++ W.vb y.key.length ++ y.key ++ [0]).toArray⟩ : ByteArray) = ⟨(S6.batchTo n ws (i + 1)).toArray⟩ := fun e => by rw [HSU.out, if_pos e]; simp
      have hf1 : y.drop = false → (⟨((s ++ W.vb y.key.length ++ y.key ++ [1]) ++ W.vb y.val.length ++ y.val).toArray⟩ : ByteArray) = ⟨(S6.batchTo n ws (i + 1)).toArray⟩ := fun e => by rw [HSU.out, if_neg (by rw [e]; decide)]; simp
      rw [← hap0, ← hap] at hf0
      rw [← hap3] at hf1
      rw [← hap] at hv3
      rw [← hap] at hs2
      generalize (⟨((s ++ W.vb y.key.length ++ y.key ++ [1]) ++ W.vb y.val.length).toArray⟩ : ByteArray) = S3 at *
      generalize (⟨(s ++ W.vb y.key.length).toArray⟩ : ByteArray) = S1 at *
      generalize (⟨s.toArray⟩ : ByteArray) = S0 at *
      generalize (⟨y.key.toArray⟩ : ByteArray) = KB at *
      generalize (⟨y.val.toArray⟩ : ByteArray) = VB at *
      have HV := Lib.hid hv
      have HV3 := Lib.hid hv3
      have HF0 := Lib.hid hf0
      have HF1 := Lib.hid hf1
      have hcc1 : ¬ 9223372036854775807 < S1.size + y.key.length := by omega
      have hcc3 : ¬ 9223372036854775807 < S3.size + y.val.length := by omega
      have HCC2 : Hid (¬ 9223372036854775807 < (S1 ++ KB).size + 1) := (show ¬ 9223372036854775807 < (S1 ++ KB).size + 1 by omega)
      have hx0 := Ext.of_drew wr
      clear hv hv3 hf0 hf1 hap hap0 hap1 hap3 hwb HSU hsl hsl2 hs1 hs2 hs3 hk10 hv10
      go_upto_region 5 with fail
      go_region_held3 (fun v => v.cell? ⟨yb, yo + i * 4, none⟩ = some (.string KB)) (first
          | exact hx0.cell y0
          | exact hx3.cell (hx0.cell y0)) (first
        | (go_at_call 51; refine (HV.out _).mono ?_; rintro e w3 ⟨rfl, hx3⟩))
      have HX3 := Lib.hid (hX.out.trans (hx0.trans hx3))
      have z1 := (hx0.trans hx3).cell y1
      have z2 := (hx0.trans hx3).cell y2
      clear hX hx0 hx3 y0 y1 y2 HV hcc1 hcs
      generalize S1 ++ KB = S2 at *
      have hcc2 := HCC2.out
      cases hd : y.drop with
      | true =>
        rw [hd] at z2
        have hfin := HF0.out hd
        have HFIN := Lib.hid hfin
        clear hfin hd
        go_wp2_with fail
        exact ⟨⟨i + 1, by omega, by go_num, congrArg Value.string HFIN.out, HX3⟩, by simp [intOf]; omega⟩
      | false =>
        rw [hd] at z2
        have hfin := HF1.out hd
        have HFIN := Lib.hid hfin
        have hz0 := Ext.of_drew w3
        clear hfin hd
        go_wp2_with fail
        go_region_held3 (fun v => v.cell? ⟨yb, yo + i * 4 + 1, none⟩ = some (.string VB)) (first
            | exact hz0.cell z1
            | exact hx4.cell (hz0.cell z1)) (first
          | (go_at_call 51; refine (HV3.out _).mono ?_; rintro e w4 ⟨rfl, hx4⟩))
        have HX4 := Lib.hid (HX3.out.trans (hz0.trans hx4))
        clear hz0 hx4 z1 z2 HX3
        go_wp2_with fail
        exact ⟨⟨i + 1, by omega, by go_num, congrArg Value.string HFIN.out, HX4⟩, by simp [intOf]; omega⟩
    · obtain rfl : i = ws.length := by omega
      have hge : ¬ ((ws.length : Nat) : Int) < (ws.length : Int) := by omega
      rw [S6.batchTo_all]
      go_wp2_with fail
      go_ret
      exact ⟨rfl, hX.out⟩

theorem strs_one {w3 : World} {base : Nat} (s : ByteArray) (hb : base ≤ w3.heap.size) : (w3.alloc (.cells #[.string s] 9)).ownsRow base 9 1 (.slice (some ⟨w3.heap.size, 0, none⟩) 1 1) 1 [.string s] :=
  ⟨by simp, .inr ⟨w3.heap.size, 1, #[.string s], rfl, hb, heap_alloc_new _ _, Nat.le_refl _, by unfold maxLen; simp, by simp, by simp⟩⟩
def strs (l : List (List UInt8)) : List Value := l.map strV
namespace S6
def imgL (l : List Pr) (m i : Nat) : List (List UInt8) := batchB m [] :: (l.take i).map prB
theorem imgL_succ (l : List Pr) (m i : Nat) (h : i < l.length) : imgL l m (i + 1) = imgL l m i ++ [prB l[i]] := by
  unfold imgL
  rw [List.take_succ_eq_append_getElem h, List.map_append]
  rfl
theorem imgL_all (l : List Pr) (m : Nat) : imgL l m l.length = image l m := by unfold imgL image; rw [List.take_length]
end S6
set_option maxRecDepth 100000 in
set_option maxHeartbeats 6400000 in
theorem refImage (w : World) (g : G9) (pv : Value) (num : Nat) (cl : Bool) (l : List S6.Pr) (hP : RPs w pv l) (hl : l.length ≤ 400000) (hn : num < 18446744073709551616) (hf : ∀ p ∈ l, p.key.length ≤ 1000000 ∧ p.val.length ≤ 1000000 ∧ p.ver < 18446744073709551616) :
    Calls Try.prog 22 #[s6v g pv num cl] w fun e w' => ∃ v', e = .returned v' ∧ w'.ownsRow w.heap.size 9 1 v' (S6.image l num).length (strs (S6.image l num)) ∧ Ext w w' := by
  obtain ⟨_, pa, pc, rfl, _, hcell⟩ := hP.shape
  have HC := Lib.hid hcell
  have HF := Lib.hid hf
  have hli : (l.length : Int) ≤ 400000 := by omega
  obtain ⟨g0, g1, g2, g3, g4, g5, g6, g7, g8⟩ := g
  have hx1 := Ext.of_alloc w (.cells #[g0, g1, g2, g3, g4, g5, g6, g7, g8, .slice pa l.length pc, .int .u64 (num : Int), .bool cl] 37)
  have hb1 := heap_alloc_new w (.cells #[g0, g1, g2, g3, g4, g5, g6, g7, g8, .slice pa l.length pc, .int .u64 (num : Int), .bool cl] 37)
  have hs1 : (w.alloc (.cells #[g0, g1, g2, g3, g4, g5, g6, g7, g8, .slice pa l.length pc, .int .u64 (num : Int), .bool cl] 37)).heap.size = w.heap.size + 1 := World.size_alloc _ _
  obtain ⟨W1, hW1⟩ : ∃ W1, W1 = w.alloc (.cells #[g0, g1, g2, g3, g4, g5, g6, g7, g8, .slice pa l.length pc, .int .u64 (num : Int), .bool cl] 37) := ⟨_, rfl⟩
  rw [← hW1] at hx1 hb1 hs1
  have k9 : W1.cell? ⟨w.heap.size, 9, none⟩ = some (.slice pa l.length pc) := (blk_cell hb1 9).trans rfl
  have k10 : W1.cell? ⟨w.heap.size, 10, none⟩ = some (.int .u64 (num : Int)) := (blk_cell hb1 10).trans rfl
  have HW1 := Lib.hid hW1
  have HX1 := Lib.hid hx1
  have HB := Lib.hid (refBatch W1 num (.slice none 0 0) [] (RWs.nil W1) hn (by simp) (fun x hx => by cases hx))
  clear hcell hf hP hW1 hb1 hs1 hx1
  unfold s6v
  go_enter Try.func22, Try.ntmps22
  go_upto_region 1 with fail
  rw [show w.alloc (.cells #[g0, g1, g2, g3, g4, g5, g6, g7, g8, .slice pa l.length pc, .int .u64 (num : Int), .bool cl] 37) = W1 from HW1.out.symm]
  clear HW1
  go_wp2_with fail
  refine HB.out.mono ?_
  clear HB
  rintro e w2 ⟨rfl, hx2⟩
  have hown := strs_one (base := W1.heap.size) ⟨(S6.batchB num []).toArray⟩ hx2.size
  have HO3 : Hid ((w2.alloc (.cells #[.string ⟨(S6.batchB num []).toArray⟩] 9)).ownsRow W1.heap.size 9 1 (.slice (some ⟨w2.heap.size, 0, none⟩) 1 1) (0 + 1) (strs (S6.imgL l num 0))) := hown
  have HX3 := Lib.hid (hx2.trans (Ext.of_alloc w2 (.cells #[.string ⟨(S6.batchB num []).toArray⟩] 9)))
  clear hown hx2
  go_wp2_with fail
  go_loopw [3, 4] (fun ov iv wr => ∃ i : Nat, i ≤ l.length ∧ iv = .int .i64 (i : Int) ∧ Hid (wr.ownsRow W1.heap.size 9 1 ov (i + 1) (strs (S6.imgL l num i))) ∧ Hid (Ext W1 wr)) (fun _ iv _ => l.length - (intOf iv).toNat)
  case atStart => exact ⟨0, Nat.zero_le _, rfl, HO3, HX3⟩
  case round =>
    clear HO3 HX3
    obtain ⟨i, hi, rfl, hO, hX⟩ := hrel
    have c9 := hX.out.cell k9
    by_cases hlt : i < l.length
    · have hlti : (i : Int) < (l.length : Int) := by omega
      obtain ⟨b, off, rfl, d0, d1, d2⟩ := HC.out i hlt
      have hbw : b < w.heap.size := World.block_lt_of_cell? w _ d0
      replace d0 := (HX1.out.trans hX.out).cell d0
      replace d1 := (HX1.out.trans hX.out).cell d1
      replace d2 := (HX1.out.trans hX.out).cell d2
      unfold strV at d0 d1
      obtain ⟨h1, h2, h3⟩ := HF.out _ (List.getElem_mem hlt)
      have HSU := Lib.hid (S6.imgL_succ l num i hlt)
      generalize l[i] = p at *
      have hbt := fun U (hU : RWs U (.slice (some ⟨wr.drew.heap.size, 0, none⟩) 1 1) [⟨p.key, p.val, false, 0⟩]) => refBatch U p.ver _ [⟨p.key, p.val, false, 0⟩] hU h3 (by simp) (fun x hx => by rw [List.mem_singleton] at hx; subst hx; exact ⟨by simp only; omega, by simp only; omega⟩)
      have HBT := Lib.hid hbt
      have hou : ∀ k, u3.ownBlock = some k → W1.heap.size ≤ k := fun k hk => (hO.out.lt k hk).1
      have hs1 := HX1.out.size
      have hwb : w.heap.size < W1.heap.size := World.block_lt_of_cell? W1 _ k9
      have hKP : ∀ w', Mod (fun k => u3.ownBlock = some k) wr w' → (Mod (fun k => u3.ownBlock = some k) wr w' ∧ w'.cell? ⟨w.heap.size, 9, none⟩ = some (.slice (some ⟨b, off, none⟩) l.length pc) ∧ w'.cell? ⟨b, off + i * 3, none⟩ = some (.string ⟨p.key.toArray⟩) ∧ w'.cell? ⟨b, off + i * 3 + 1, none⟩ = some (.string ⟨p.val.toArray⟩) ∧ w'.cell? ⟨b, off + i * 3 + 2, none⟩ = some (.int .u64 (p.ver : Int))) := fun w' hw => ⟨hw, hw.cell c9 (fun e => by have := hou w.heap.size e; omega), hw.cell d0 (fun e => by have := hou b e; omega), hw.cell d1 (fun e => by have := hou b e; omega), hw.cell d2 (fun e => by have := hou b e; omega)⟩
      have hx0 := Ext.of_drew wr
      have hxa := hx0.trans (Ext.of_alloc wr.drew (.cells #[.string ⟨p.key.toArray⟩, .string ⟨p.val.toArray⟩, .bool false, .int .u64 0] 52))
      have hrow1 : RWs (wr.drew.alloc (.cells #[.string ⟨p.key.toArray⟩, .string ⟨p.val.toArray⟩, .bool false, .int .u64 0] 52)) (.slice (some ⟨wr.drew.heap.size, 0, none⟩) 1 1) [⟨p.key, p.val, false, 0⟩] := ReadsN.row 4 wr.drew [.string ⟨p.key.toArray⟩, .string ⟨p.val.toArray⟩, .bool false, .int .u64 0] 52 1 rfl (by unfold maxLen; omega) (by simp [Value.oneCell'])
      have HR1 := Lib.hid hrow1
      clear hbt hrow1 h1 h2 h3
      go_upto_region 5 with fail
      go_region_held3 (fun v => Mod (fun k => u3.ownBlock = some k) wr v ∧ v.cell? ⟨w.heap.size, 9, none⟩ = some (.slice (some ⟨b, off, none⟩) l.length pc) ∧ v.cell? ⟨b, off + i * 3, none⟩ = some (.string ⟨p.key.toArray⟩) ∧ v.cell? ⟨b, off + i * 3 + 1, none⟩ = some (.string ⟨p.val.toArray⟩) ∧ v.cell? ⟨b, off + i * 3 + 2, none⟩ = some (.int .u64 (p.ver : Int))) (first
          | exact hKP _ (Mod.of_ext hx0)
          | exact hKP _ (Mod.of_ext hxa)
          | exact hKP _ (Mod.of_ext (hxa.trans hx4))
          | exact hKP _ (Mod.of_ext (hxa.trans (hx4.trans (Ext.of_alloc w4 _))))
          | exact hKP _ hm5) (first
        | (go_at_call 27; refine (HBT.out _ HR1.out).mono ?_; rintro e w4 ⟨rfl, hx4⟩)
        | (refine step_appg el_str W1.heap.size _ ((hX.out.trans (hxa.trans (hx4.trans (Ext.of_alloc w4 _)))).size) rfl _ _ rfl u3 (i + 1) _ rfl ((hxa.trans (hx4.trans (Ext.of_alloc w4 _))).keptOwn hO.out) (.slice (some ⟨w4.heap.size, 0, none⟩) 1 1) 1 _ rfl (ReadsN.row 1 w4 [.string ⟨(S6.prB p).toArray⟩] 9 1 rfl (by unfold maxLen; omega) (by simp [Value.oneCell'])) (by omega) (by omega) ?_; intro v5 w5 hown5 hg5; have hm5 : Mod (fun k => u3.ownBlock = some k) wr w5 := Mod.trans (Mod.of_ext (hxa.trans (hx4.trans (Ext.of_alloc w4 _)))) (Mod.grown (F := fun k => u3.ownBlock = some k) hg5 (fun z e _ => e)) (fun _ _ h => h)))
      have HO5 : Hid (w5.ownsRow W1.heap.size 9 1 v5 (i + 1 + 1) (strs (S6.imgL l num (i + 1)))) := (show w5.ownsRow W1.heap.size 9 1 v5 (i + 1 + 1) (strs (S6.imgL l num (i + 1))) by rw [HSU.out]; unfold strs; rw [List.map_append]; exact hown5)
      have HX5 := Lib.hid (Mod.ext hX.out hm5 (fun z hz => hou z hz))
      clear hown5 hg5 hm5 hKP hou hx0 hxa hx4 hO hX c9 d0 d1 d2
      go_wp2_with fail
      exact ⟨⟨i + 1, by omega, by go_num, HO5, HX5⟩, by simp [intOf]; omega⟩
    · obtain rfl : i = l.length := by omega
      have hge : ¬ ((l.length : Nat) : Int) < (l.length : Int) := by omega
      have hO2 := hO.out
      rw [S6.imgL_all] at hO2
      have HO2 := Lib.hid hO2
      clear hO hO2
      go_wp2_with fail
      go_ret
      have hle : (S6.image l num).length = l.length + 1 := by unfold S6.image; simp
      exact ⟨_, rfl, by rw [hle]; exact ownsRow_base5 HO2.out HX1.out.size, HX1.out.trans hX.out⟩
end Go.Proofs.Ytnjfioikpajhlaa
