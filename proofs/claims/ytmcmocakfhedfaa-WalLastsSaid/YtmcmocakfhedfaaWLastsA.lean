/- The walk of WalLasts. (Printed by tools/mkwlasts.py.) -/
import Derived.Test.YtmcmocakfhedfaaWalX
namespace Go.Proofs.Ytmcmocakfhedfaa
open Go.RowKit

section
variable {w0 w w' : World} {X : Nat → Prop} {p : Nat} {d : D.Dsk}
theorem fuse_rest {l : List (List UInt8)} {B : Nat} {a : Int} (h : Held w0 w X p d) (hr : W5.Rest d l B) (ha : a ≤ 9223372036854775807) :
    Calls Try.prog 33 #[.pointer (some ⟨p, 0, none⟩), .int .i64 a] w fun e w' => ∃ d' z, e = .returned (.int .i64 z) ∧ Step w0 w w' X p d' ∧ W5.Rest d' l B := by
  refine (held_fuse h a ha).mono ?_
  rintro e w' ⟨he, hs⟩
  exact ⟨_, _, he, hs, hr.fuse a⟩
theorem open_rest {l : List (List UInt8)} {B : Nat} (h : Held w0 w X p d) (hr : W5.Rest d l B) (hB : B + 2 < 4294967295) :
    Calls Try.prog 19 #[.pointer (some ⟨p, 0, none⟩)] w fun e w' => ∃ d' v z, e = .returned (.tuple #[v, .int .i64 z]) ∧ (z = 0 ∨ z = 3) ∧ Step w0 w w' X p d' ∧ W5.Leaves d' (fun l' => l' = l) (B + 2) := by
  obtain ⟨o1, o2, _, _⟩ := hr.open_ h.okd hB
  refine (open_any h (by rw [hr.wait]; exact Nat.zero_le _)).mono ?_
  rintro e w' (⟨h9, q, rfl, _, hL, hK⟩ | ⟨h9, rfl, hst⟩)
  · exact ⟨_, _, _, rfl, .inl rfl, ⟨hL.held, hK⟩, o2⟩
  · exact ⟨_, _, _, rfl, o1, hst, o2⟩
theorem open_last {l : List (List UInt8)} {B : Nat} (h : Held w0 w X p d) (hr : W5.Rest d l B) (ha : d.armed = false) (hB : B + 2 < 4294967295) :
    Calls Try.prog 19 #[.pointer (some ⟨p, 0, none⟩)] w fun e w' => ∃ q L, e = .returned (.tuple #[.pointer (some ⟨q, 0, none⟩), .int .i64 0]) ∧ Logd w0 w' X p q L ∧ L.recs = l ∧ Keeps X w w' := by
  obtain ⟨_, _, o3, o4⟩ := hr.open_ h.okd hB
  refine (open_any h (by rw [hr.wait]; exact Nat.zero_le _)).mono ?_
  rintro e w' (⟨h9, q, rfl, _, hL, hK⟩ | ⟨h9, rfl, hst⟩)
  · exact ⟨q, _, rfl, hL, o4 h9, hK⟩
  · exact absurd (o3 ha) h9
end

set_option maxRecDepth 100000 in
set_option maxHeartbeats 12800000 in
theorem lasts_ac (n cut again mask kind li ln size : Int) (sv dv kv0 kkv : Value) (l : List Act5) (data : List UInt8) (keep : List Bool) (w : World) (hs : ActsIn w sv l) (hl : l.length ≤ 40) (h1 : 4 ≤ n) (h2 : n ≤ 60)
    (hb : Bs w dv data) (hk : Reads w kkv (keep.map Value.bool)) (hkind : kind ≠ 1) (hcut : 0 ≤ cut) (hcm : cut ≤ 9223372036854775807) (ha1 : -9223372036854775808 ≤ again) (ha2 : again ≤ 9223372036854775807) :
    Calls Try.prog 7 #[.int .i64 n, sv, .agg #[.int .i64 kind, .int .i64 li, .int .i64 ln, .int .i64 size, dv, kv0, .int .u8 mask], .int .i64 cut, kkv, .int .i64 again] w fun e w' => e = .returned (.bool true) ∧ Ext w w' := by
  obtain ⟨i0, hi0, hz0, hz1, hz2⟩ := info_parts info_str
  obtain ⟨a, cap, rfl, _⟩ := hs.shape
  obtain ⟨da, dc, rfl⟩ := hb.shape
  obtain ⟨ka, kc, hkv⟩ := hk.shape
  rw [List.length_map] at hkv
  subst hkv
  have HS := Lib.hid hs
  have HB := Lib.hid hb
  have HK := Lib.hid hk
  have HKX := Lib.hid hk.block_lt5
  clear hs hb hk
  have hxb := Ext.of_alloc w (.cells #[.int .i64 kind, .int .i64 li, .int .i64 ln, .int .i64 size, .slice da data.length dc, kv0, .int .u8 mask] 70)
  have hbx := fun (v : World) hx => box_at w #[.int .i64 kind, .int .i64 li, .int .i64 ln, .int .i64 size, .slice da data.length dc, kv0, .int .u8 mask] 70 (v := v) hx
  have hkb : (kind == 1) = false := by rw [beq_eq_false_iff_ne]; exact hkind
  go_enter Try.func7, Try.ntmps7
  go_wp2_with fail
  refine (awake5 _).mono ?_
  rintro e w1 ⟨rfl, hx1⟩
  have hblt : w.heap.size < w1.heap.size := blk_lt (hbx w1 hx1)
  have HXW := Lib.hid (hxb.trans hx1)
  have HBX := Lib.hid (fun (v : World) (hv : Ext w1 v) => hbx v (hx1.trans hv))
  clear hx1 hxb hbx
  go_wp2_with fail
  refine (begunS n _ l w1 (HS.out.ext HXW.out) hl h1 h2).mono ?_
  rintro e w2 ⟨p, q, Y, g, recs, rfl, hL, hlv, hyn, hya, hg1, hg2⟩
  have hrl : recs.length ≤ 2047 := by
    have := W5.len_le_used recs
    have := hlv.fit
    have := W5.area_le Y hL.ok.n2
    omega
  have hre := records_any hL
  have HL2 := Lib.hid hL
  have HLV := Lib.hid hlv
  have HRE := Lib.hid hre
  clear hre hL hlv
  go_wp2_with fail
  refine HRE.out.mono ?_
  clear HRE
  rintro e w3 ⟨v3, vs3, rfl, hR3, hx3⟩
  have hte := texts_any v3 _ w3 (hR3.rows (X := fun _ => True) (fun _ _ _ => trivial)) (by omega)
  have HTE := Lib.hid hte
  clear hte hR3
  go_wp2_with fail
  refine HTE.out.mono ?_
  clear HTE
  rintro e w4 ⟨v4, rfl, hown4, hx4⟩
  have HX4 := Lib.hid (hx3.trans hx4)
  have HO4 := Lib.hid (ownsRow_base5 hown4 hx3.size)
  clear hown4 hx3 hx4
  have hx14 := HL2.out.held.ext.trans HX4.out
  have hb4 := HBX.out w4 hx14
  have c3 : w4.cell? ⟨w.heap.size, 3, none⟩ = some (.int .i64 size) := (cell_of_row w4 w.heap.size 3 _ _ _ hb4).trans rfl
  have c4 : w4.cell? ⟨w.heap.size, 4, none⟩ = some (.slice da data.length dc) := (cell_of_row w4 w.heap.size 4 _ _ _ hb4).trans rfl
  have hbd4 := HB.out.ext (HXW.out.trans hx14)
  have hx0 := Ext.of_drew w4
  have hxa := Ext.of_alloc w4.drew (.cells #[] 9)
  have hre := fun (w' : World) (hx2 : Ext w4 w') => record_any _ data size w' (hbd4.ext hx2)
  unfold MadeB at hre
  have hrec4 := Reads.of_own HO4.out (str_ones recs)
  have hown4e := own_empty w4.drew w4.drew.heap.size 9 (Nat.le_refl _)
  have hrml : (recs.map strV).length ≤ 2047 := by rw [List.length_map]; exact hrl
  have hlen := W5.record_len data size
  have hrn := W5.recN_le size
  rw [← hlen] at hrn
  clear hlen
  have HRECS := Lib.hid (fun (w' : World) (h : Bs w' (.slice da data.length dc) data) => record_any _ data size w' h)
  unfold MadeB at HRECS
  generalize W5.record data size = B at *
  go_wp2_with fail
  have hHeld : w4.drew.cell? ⟨w.heap.size, 3, none⟩ = some (.int .i64 size) ∧ w4.drew.cell? ⟨w.heap.size, 4, none⟩ = some (.slice da data.length dc) := ⟨Ext.cell hx0 c3, Ext.cell hx0 c4⟩
  refine wp_region_C (fun w' => w'.cell? ⟨w.heap.size, 3, none⟩ = some (.int .i64 size) ∧ w'.cell? ⟨w.heap.size, 4, none⟩ = some (.slice da data.length dc)) 10 (by kernel_rfl) ?_
  (refine wpAnyC_take [2, 10] (i := 1) (oi := ⟨some 51, _, _, _, _, _⟩) (v := ?_) rfl (by kernel_rfl) (by kernel_rfl) (by kernel_rfl) (by kernel_rfl) (fun _ _ _ h => h) (Or.inl ⟨by rfl, ?_⟩) hHeld ?_; rotate_left; (focus (intro w hSw; (obtain ⟨hSw1, hSw2⟩ := hSw); go_simp; first | done | with_reducible rfl)); try simp only [Act.put, List.setIfInBounds_toArray, List.set_cons_zero, List.set_cons_succ])
  (refine wpAnyC_take [4, 7, 10] (i := 3) (oi := ⟨some 53, _, _, _, _, _⟩) (v := ?_) rfl (by kernel_rfl) (by kernel_rfl) (by kernel_rfl) (by kernel_rfl) (fun _ _ _ h => h) (Or.inl ⟨by rfl, ?_⟩) hHeld ?_; rotate_left; (focus (intro w hSw; (obtain ⟨hSw1, hSw2⟩ := hSw); go_simp; first | done | with_reducible rfl)); try simp only [Act.put, List.setIfInBounds_toArray, List.set_cons_zero, List.set_cons_succ])
  (refine wpAnyC_take [7, 10] (i := 4) (oi := ⟨some 54, _, _, _, _, _⟩) (v := ?_) rfl (by kernel_rfl) (by kernel_rfl) (by kernel_rfl) (by kernel_rfl) (fun _ _ _ h => h) (Or.inl ⟨by rfl, ?_⟩) hHeld ?_; rotate_left; (focus (intro w hSw; (obtain ⟨hSw1, hSw2⟩ := hSw); go_simp; first | done | with_reducible rfl)); try simp only [Act.put, List.setIfInBounds_toArray, List.set_cons_zero, List.set_cons_succ])
  (refine wpAnyC_take [6, 7, 10] (i := 5) (oi := ⟨some 55, _, _, _, _, _⟩) (v := ?_) rfl (by kernel_rfl) (by kernel_rfl) (by kernel_rfl) (by kernel_rfl) (fun _ _ _ h => h) (Or.inl ⟨by rfl, ?_⟩) hHeld ?_; rotate_left; (focus (intro w hSw; (obtain ⟨hSw1, hSw2⟩ := hSw); go_simp; first | done | with_reducible rfl)); try simp only [Act.put, List.setIfInBounds_toArray, List.set_cons_zero, List.set_cons_succ])
  (refine wpAnyC_take [7, 10] (i := 6) (oi := ⟨some 56, _, _, _, _, _⟩) (v := ?_) rfl (by kernel_rfl) (by kernel_rfl) (by kernel_rfl) (by kernel_rfl) (fun _ _ _ h => h) (Or.inl ⟨by rfl, ?_⟩) hHeld ?_; rotate_left; (focus (intro w hSw; (obtain ⟨hSw1, hSw2⟩ := hSw); go_simp; first | done | with_reducible rfl)); try simp only [Act.put, List.setIfInBounds_toArray, List.set_cons_zero, List.set_cons_succ])
  refine wpAnyC_one (i := 0) (oi := ⟨some 50, _, _, _, _, _⟩) rfl (by kernel_rfl) (by decide) (fun K hK => ?_)
  rw [if_pos (by rfl)]
  go_simp
  refine hK.out _ _ ⟨Ext.cell (hx0.trans hxa) c3, Ext.cell (hx0.trans hxa) c4⟩ ?_
  clear hK K
  try simp only [Act.put, List.setIfInBounds_toArray, List.set_cons_zero, List.set_cons_succ]
  refine wpAnyC_one (i := 2) (oi := ⟨some 52, _, _, _, _, _⟩) rfl (by kernel_rfl) (by decide) (fun K hK => ?_)
  rw [if_pos (by rfl)]
  refine wp_append_reads _ _ _ 30 rfl w4.drew.heap.size 9 i0 (.string ⟨#[]⟩) 16 Try.underlying30 hi0 hz0 hz1 hz2 rfl _ 0 [] rfl hown4e v4 (recs.map strV) rfl (hrec4.ext (hx0.trans hxa)) (by unfold maxLen; omega) (by omega) hxa.size ?_
  intro v5 w5 hown5 hgrow5
  have hx5 : Ext w4 w5 := (hx0.trans hxa).grown hgrow5 (fun k hk => (hown4e.lt k hk).1)
  refine hK.out _ _ ⟨Ext.cell (hx5) c3, Ext.cell (hx5) c4⟩ ?_
  clear hK K
  try simp only [Act.put, List.setIfInBounds_toArray, List.set_cons_zero, List.set_cons_succ]
  refine wpAnyC_one (i := 7) (oi := ⟨some 57, _, _, _, _, _⟩) rfl (by kernel_rfl) (by decide) (fun K hK => ?_)
  rw [if_pos (by rfl)]
  go_simp
  go_at_call 16
  refine (hre _ hx5).mono ?_
  rintro e w6 ⟨v6, rfl, hown6, hx6⟩
  obtain ⟨va, vc, rfl⟩ := (Bs.of_own hown6).shape
  have cv := (Bs.of_own hown6).toString (P := Try.prog) 31 9 5 Try.underlying31 Try.underlying5 Try.underlying9
  have hx7a := (hx5.trans hx6).trans (Ext.of_alloc w6 (.cells #[strV B] 9))
  have hown7a := (hx6.trans (Ext.of_alloc w6 (.cells #[strV B] 9))).keptOwn hown5
  refine hK.out _ _ ⟨Ext.cell (hx5.trans hx6) c3, Ext.cell (hx5.trans hx6) c4⟩ ?_
  clear hK K
  try simp only [Act.put, List.setIfInBounds_toArray, List.set_cons_zero, List.set_cons_succ]
  refine wpAnyC_one (i := 8) (oi := ⟨some 58, _, _, _, _, _⟩) rfl (by kernel_rfl) (by decide) (fun K hK => ?_)
  rw [if_pos (by rfl)]
  go_simp
  refine hK.out _ _ ⟨Ext.cell (hx5.trans hx6) c3, Ext.cell (hx5.trans hx6) c4⟩ ?_
  clear hK K
  try simp only [Act.put, List.setIfInBounds_toArray, List.set_cons_zero, List.set_cons_succ]
  refine wpAnyC_one (i := 9) (oi := ⟨some 59, _, _, _, _, _⟩) rfl (by kernel_rfl) (by decide) (fun K hK => ?_)
  rw [if_pos (by rfl)]
  go_simp
  refine hK.out _ _ ⟨Ext.cell (hx7a) c3, Ext.cell (hx7a) c4⟩ ?_
  clear hK K
  try simp only [Act.put, List.setIfInBounds_toArray, List.set_cons_zero, List.set_cons_succ]
  refine wpAnyC_c (oi := ⟨some 60, _, _, _, _, _⟩) rfl (by kernel_rfl) (fun K hK => ?_)
  rw [if_pos (by rfl)]
  refine wp_append_reads _ _ _ 30 rfl w4.drew.heap.size 9 i0 (.string ⟨#[]⟩) 16 Try.underlying30 hi0 hz0 hz1 hz2 rfl v5 (0 + (recs.map strV).length) ([] ++ recs.map strV) rfl hown7a _ [strV B] rfl (Reads.one w6 (strV B) 9 rfl) (by unfold maxLen; simp only [List.length_singleton]; omega) (by simp only [List.length_singleton]; omega) hx7a.size ?_
  intro v7 w7 hown7 hgrow7
  have hx7 : Ext w4 w7 := hx7a.grown hgrow7 (fun k hk => (hown7a.lt k hk).1)
  refine hK.out _ _ ?_
  clear hK K
  try simp only [Act.put, List.setIfInBounds_toArray, List.set_cons_zero, List.set_cons_succ]
  (refine wpAny_take (i := 11) (oi := ⟨some 17, _, _, _, _, _⟩) (v := ?_) rfl (by kernel_rfl) (by kernel_rfl) (by kernel_rfl) (fun _ _ _ h => h) (Or.inl ⟨by rfl, ?_⟩) ?_; rotate_left; (focus (intro w; go_simp; first | done | with_reducible rfl)); try simp only [Act.put, List.setIfInBounds_toArray, List.set_cons_zero, List.set_cons_succ])
  refine wpAny_done (by kernel_rfl) ?_ _
  have HX7 := Lib.hid (HX4.out.trans hx7)
  have HA7 := Lib.hid (show w7.ownsRow w2.heap.size 9 1 v7 (recs ++ [B]).length ((recs ++ [B]).map strV) by
    have h := ownsRow_base5 hown7 (base' := w2.heap.size) HX4.out.size
    rw [List.length_append, List.map_append]
    simpa using h)
  have HO7 := Lib.hid (hx7.keptOwn HO4.out)
  have hb7 := HBX.out w7 (HL2.out.held.ext.trans HX7.out)
  have hBl : B.length ≤ 10000 := hrn
  clear hown7 hgrow7 hx7 hx7a hown7a cv hown6 hx6 hown5 hgrow5 hx5 hx0 hxa hown4e hrec4 hHeld c3 c4 hb4 hbd4 hre hx14 HX4 HO4
  obtain ⟨aft, haft⟩ : ∃ aft, aft = recs ++ [B] := ⟨_, rfl⟩
  rw [← haft] at HA7
  have c0 : w7.cell? ⟨w.heap.size, 0, none⟩ = some (.int .i64 kind) := (cell_of_row w7 w.heap.size 0 _ _ _ hb7).trans rfl
  have HAF := Lib.hid haft
  have hal : aft.length ≤ 2048 := by rw [haft, List.length_append]; simp; omega
  clear haft
  have HLv := Lib.hid (HL2.out.all HX7.out)
  have HXO := Lib.hid (show ∀ k, v4.ownBlock = some k → New (fun k => k < w1.heap.size) w2 w7 k from fun k hk => .inr (HO7.out.lt k hk))
  have HXA := Lib.hid (show ∀ k, v7.ownBlock = some k → New (fun k => k < w1.heap.size) w2 w7 k from fun k hk => .inr (HA7.out.lt k hk))
  have HX1 := Lib.hid (show ∀ k, k < w1.heap.size → New (fun k => k < w1.heap.size) w2 w7 k from fun k hk => .inl hk)
  have hbxx := Lib.hid hb7
  generalize New (fun k => k < w1.heap.size) w2 w7 = XV at *
  have HKR := Lib.hid (show keep = [] ∨ ∀ k, (Value.slice ka keep.length kc).ownBlock = some k → XV k from HKX.out.imp (fun h => List.map_eq_nil_iff.1 h) (fun h k hk => HX1.out k (Nat.lt_of_lt_of_le (h k hk) HXW.out.size)))
  have hlf := logd_fuse HLv.out cut hcm
  have hfe : D.fuseE Y cut = 0 := by unfold D.fuseE; rw [if_neg (by omega), HLV.out.down]; rfl
  simp only at hlf
  rw [hfe] at hlf
  have HLF := Lib.hid hlf
  clear hlf hfe
  go_wp2_with fail
  refine HLF.out.mono ?_
  clear HLF
  rintro e w10 ⟨rfl, hL10, hK10⟩
  have HL10 := Lib.hid hL10
  have HLV10 := Lib.hid (W5.live_fuse HLV.out cut)
  have HK10 := Lib.hid hK10
  generalize D.fuse Y cut = D1 at *
  clear hL10 hK10 c0
  have hb10 : w10.heap[w.heap.size]? = some _ := blk_mod hbxx.out HK10.out (fun hn => hn (HX1.out _ hblt))
  have hx110 := HL10.out.held.ext
  have e0 : w10.cell? ⟨w.heap.size, 0, none⟩ = some (.int .i64 kind) := (cell_of_row w10 w.heap.size 0 _ _ _ hb10).trans rfl
  have e1 : w10.cell? ⟨w.heap.size, 1, none⟩ = some (.int .i64 li) := (cell_of_row w10 w.heap.size 1 _ _ _ hb10).trans rfl
  have e2 : w10.cell? ⟨w.heap.size, 2, none⟩ = some (.int .i64 ln) := (cell_of_row w10 w.heap.size 2 _ _ _ hb10).trans rfl
  have e3 : w10.cell? ⟨w.heap.size, 3, none⟩ = some (.int .i64 size) := (cell_of_row w10 w.heap.size 3 _ _ _ hb10).trans rfl
  have e4 : w10.cell? ⟨w.heap.size, 4, none⟩ = some (.slice da data.length dc) := (cell_of_row w10 w.heap.size 4 _ _ _ hb10).trans rfl
  have e5 : w10.cell? ⟨w.heap.size, 5, none⟩ = some kv0 := (cell_of_row w10 w.heap.size 5 _ _ _ hb10).trans rfl
  have e6 : w10.cell? ⟨w.heap.size, 6, none⟩ = some (.int .u8 mask) := (cell_of_row w10 w.heap.size 6 _ _ _ hb10).trans rfl
  have hbd10 := HB.out.ext (HXW.out.trans hx110)
  have HXC := Lib.hid hx110
  clear hb10 hx110
  have hre := HRECS.out w10 hbd10
  have HRE := Lib.hid hre
  clear hre
  go_wp2_with fail
  refine HRE.out.mono ?_
  clear HRE
  rintro e w11 ⟨v11, rfl, hown11, hx11⟩
  have hap := append_new HL10.out hx11 v11 B (Bs.of_own hown11) (fun k hk => .inr (hown11.lt k hk)) (by simp only; rw [HLV10.out.wait]; exact Nat.zero_le _)
  have HAP := Lib.hid hap
  have DN := Lib.hid (W5.done_append HLV10.out B)
  rw [← HAF.out] at DN
  clear hap hown11 hx11 e0 e1 e2 e3 e4 e5 e6 hbd10
  generalize W5.append ⟨D1, g, recs, false⟩ B = RR at *
  go_wp2_with fail
  refine HAP.out.mono ?_
  clear HAP
  rintro e w12 ⟨rfl, hL12, hK12⟩
  have HL12 := Lib.hid hL12
  have HK12 := Lib.hid (HK10.out.trans hK12)
  clear hL12 hK12 HL10 HLV10 HK10
  obtain ⟨L3, E3⟩ := RR
  simp only at HL12 ⊢
  have HOV := Lib.hid (HK12.out.own HO7.out HXO.out)
  have HAV := Lib.hid (HK12.out.own HA7.out HXA.out)
  unfold W5.Done at DN
  simp only at DN
  obtain ⟨c0, c1⟩ : True ∧ True := ⟨trivial, trivial⟩
  clear c0 c1
  rcases DN.out with ⟨q1, q2⟩ | ⟨q2, q3, q4⟩ | ⟨q2, q4⟩
  · rw [q1] at HL12
    rcases q2 with q2 | q2
    · subst q2
      have hre := records_any HL12.out
      have HRE := Lib.hid hre
      clear hre
      go_wp2_with fail
      refine HRE.out.mono ?_
      clear HRE
      rintro e w13 ⟨v13, vs13, rfl, hR13, hx13⟩
      have hte := texts_any v13 _ w13 (hR13.rows (X := fun _ => True) (fun _ _ _ => trivial)) (by omega)
      have HTE := Lib.hid hte
      clear hte hR13
      go_wp2_with fail
      refine HTE.out.mono ?_
      clear HTE
      rintro e w14 ⟨v14, rfl, hown14, hx14⟩
      have hsa := same_any v14 v4 recs recs w14 (Reads.of_own hown14 (str_ones recs)) (Reads.of_own ((hx13.trans hx14).keptOwn HOV.out) (str_ones recs))
      rw [decide_eq_true rfl] at hsa
      have HSA := Lib.hid hsa
      have HXF := Lib.hid ((HXW.out.trans HL12.out.held.ext).trans (hx13.trans hx14))
      clear hsa hown14 hx14 hx13
      go_wp2_with fail
      refine HSA.out.mono ?_
      rintro e w15 ⟨rfl, hx15⟩
      have HXG := Lib.hid (HXF.out.trans hx15)
      clear hx15
      go_wp2
      go_ret
      exact ⟨rfl, HXG.out⟩
    · subst q2
      have hre := records_any HL12.out
      have HRE := Lib.hid hre
      clear hre
      go_wp2_with fail
      refine HRE.out.mono ?_
      clear HRE
      rintro e w13 ⟨v13, vs13, rfl, hR13, hx13⟩
      have hte := texts_any v13 _ w13 (hR13.rows (X := fun _ => True) (fun _ _ _ => trivial)) (by omega)
      have HTE := Lib.hid hte
      clear hte hR13
      go_wp2_with fail
      refine HTE.out.mono ?_
      clear HTE
      rintro e w14 ⟨v14, rfl, hown14, hx14⟩
      have hsa := same_any v14 v4 recs recs w14 (Reads.of_own hown14 (str_ones recs)) (Reads.of_own ((hx13.trans hx14).keptOwn HOV.out) (str_ones recs))
      rw [decide_eq_true rfl] at hsa
      have HSA := Lib.hid hsa
      have HXF := Lib.hid ((HXW.out.trans HL12.out.held.ext).trans (hx13.trans hx14))
      clear hsa hown14 hx14 hx13
      go_wp2_with fail
      refine HSA.out.mono ?_
      rintro e w15 ⟨rfl, hx15⟩
      have HXG := Lib.hid (HXF.out.trans hx15)
      clear hx15
      go_wp2
      go_ret
      exact ⟨rfl, HXG.out⟩
  · subst q2
    have hre := records_any HL12.out
    rw [q3] at hre
    have HRE := Lib.hid hre
    have HLE := Lib.hid q4
    clear hre q3 q4 DN
    go_wp2_with fail
    refine HRE.out.mono ?_
    clear HRE
    rintro e w13 ⟨v13, vs13, rfl, hR13, hx13⟩
    have hte := texts_any v13 _ w13 (hR13.rows (X := fun _ => True) (fun _ _ _ => trivial)) (by omega)
    have HTE := Lib.hid hte
    clear hte hR13
    go_wp2_with fail
    refine HTE.out.mono ?_
    clear HTE
    rintro e w14 ⟨v14, rfl, hown14, hx14⟩
    have hsa := same_any v14 v7 aft aft w14 (Reads.of_own hown14 (str_ones aft)) (Reads.of_own ((hx13.trans hx14).keptOwn HAV.out) (str_ones aft))
    rw [decide_eq_true rfl] at hsa
    have HSA := Lib.hid hsa
    have HX14 := Lib.hid (hx13.trans hx14)
    clear hsa hown14 hx14 hx13
    go_wp2_with fail
    refine HSA.out.mono ?_
    clear HSA
    rintro e w15 ⟨rfl, hx15⟩
    have HH15 := Lib.hid (HL12.out.held.after_ext (HX14.out.trans hx15))
    have HK15 := Lib.hid (HK12.out.trans (Keeps.of_ext (HX14.out.trans hx15)))
    clear hx15 HX14 HL12
    have hcu := held_cut HH15.out
    have HCU := Lib.hid hcu
    clear hcu
    go_wp2_with fail
    refine HCU.out.mono ?_
    clear HCU
    rintro e w16 ⟨rfl, hst16⟩
    have hrs := held_restart_X hst16.1 (.slice ka keep.length kc) keep (HK.out.ext (HXW.out.trans hst16.1.ext)) HKR.out
    rw [W5.restart_cut] at hrs
    have HRS := Lib.hid hrs
    have HK16 := Lib.hid (HK15.out.trans hst16.2)
    clear hrs hst16
    go_wp2_with fail
    refine HRS.out.mono ?_
    clear HRS
    rintro e w17 ⟨rfl, hst17⟩
    obtain ⟨ls, hP, hrest, harm⟩ := HLE.out.rest keep hst17.1.okd
    have HH17 := Lib.hid hst17.1
    have HR17 := Lib.hid hrest
    have HM17 := Lib.hid harm
    have HK17 := Lib.hid (HK16.out.trans hst17.2)
    have HP := Lib.hid hP
    have hll : ls.length ≤ 2048 := by rw [hP]; exact hal
    clear hst17 hrest harm hP HK16 HK15 HH15 HLE
    generalize D.restart L3.d keep = R0 at *
    go_wp2
    go_loopw [19] (fun iv wr => ∃ i : Nat, ∃ d : D.Dsk, i ≤ 3 ∧ iv = .int .i64 (i : Int) ∧ Hid (Held w1 wr XV p d) ∧ Hid (W5.Rest d ls (g + 1 + 2 * i)) ∧ Hid (d.armed = false) ∧ Hid (Keeps XV w7 wr)) (fun iv _ => 3 - (intOf iv).toNat)
    case atStart => exact ⟨0, R0, by omega, rfl, HH17.out, HR17.out, HM17.out, HK17.out⟩
    case round =>
      clear HH17 HR17 HM17 HK17
      obtain ⟨i, d, hi, rfl, hH, hR, hM, hKp⟩ := hrel
      by_cases hc1 : (i : Int) < again
      · by_cases hc2 : i < 3
        · have hc2i : (i : Int) < 3 := by omega
          go_wp2_with fail
          all_goals
            refine (fuse_rest hH.out hR.out (by omega)).mono ?_
            rintro e w18 ⟨d18, z18, rfl, hst18, hr18⟩
            have hop := open_rest hst18.1 hr18 (by omega)
            have HOP := Lib.hid hop
            have HK18 := Lib.hid (hKp.out.trans hst18.2)
            clear hop hst18 hr18
            go_wp2_with fail
            refine HOP.out.mono ?_
            clear HOP
            rintro e w19 ⟨d19, v19, z19, rfl, hz19, hst19, hle19⟩
            have hcu := held_cut hst19.1
            have HCU := Lib.hid hcu
            have HK19 := Lib.hid (HK18.out.trans hst19.2)
            have HLE := Lib.hid hle19
            clear hcu hst19 hle19 HK18
            rcases hz19 with rfl | rfl
            all_goals
              go_wp2_with fail
              refine HCU.out.mono ?_
              clear HCU
              rintro e w20 ⟨rfl, hst20⟩
              have hrs := held_restart_X hst20.1 (.slice ka keep.length kc) keep (HK.out.ext (HXW.out.trans hst20.1.ext)) HKR.out
              rw [W5.restart_cut] at hrs
              have HRS := Lib.hid hrs
              have HK20 := Lib.hid (HK19.out.trans hst20.2)
              clear hrs hst20
              go_wp2_with fail
              refine HRS.out.mono ?_
              clear HRS
              rintro e w21 ⟨rfl, hst21⟩
              obtain ⟨l2, rfl, hrest, harm⟩ := HLE.out.rest keep hst21.1.okd
              have HH21 := Lib.hid hst21.1
              have HR21 := Lib.hid (show W5.Rest (D.restart d19 keep) l2 (g + 1 + 2 * (i + 1)) from hrest)
              have HM21 := Lib.hid harm
              have HK21 := Lib.hid (HK20.out.trans hst21.2)
              clear hst21 hrest harm
              go_wp2
              go_roundw
              case rel => exact ⟨i + 1, _, by omega, by go_num, HH21, HR21, HM21, HK21⟩
              case measure => (simp [intOf]; try omega)
        · obtain rfl : i = 3 := by omega
          have hol := open_last hH.out hR.out hM.out (by omega)
          have HOL := Lib.hid hol
          clear hol
          go_wp2_with fail
          refine HOL.out.mono ?_
          clear HOL
          rintro e w18 ⟨q18, L18, rfl, hL18, rfl, hK18⟩
          have hre := records_any hL18
          have HL18 := Lib.hid hL18
          have HRE := Lib.hid hre
          have HK18 := Lib.hid (hKp.out.trans hK18)
          clear hre hL18 hK18 hR hM hH
          go_wp2_with fail
          refine HRE.out.mono ?_
          clear HRE
          rintro e w19 ⟨v19, vs19, rfl, hR19, hx19⟩
          have hte := texts_any v19 _ w19 (hR19.rows (X := fun _ => True) (fun _ _ _ => trivial)) (by omega)
          have HTE := Lib.hid hte
          clear hte hR19
          go_wp2_with fail
          refine HTE.out.mono ?_
          clear HTE
          rintro e w20 ⟨v20, rfl, hown20, hx20⟩
          have HX20 := Lib.hid (hx19.trans hx20)
          have HO20 := Lib.hid hown20
          have hsa := same_any v20 v7 L18.recs aft w20 (Reads.of_own hown20 (str_ones _)) (Reads.of_own (HX20.out.keptOwn (HK18.out.own HA7.out HXA.out)) (str_ones aft))
          have HSA := Lib.hid hsa
          clear hsa hown20 hx20 hx19
          go_wp2_with fail
          refine HSA.out.mono ?_
          clear HSA
          rintro e w21 ⟨rfl, hx21⟩
          have HX21 := Lib.hid (HX20.out.trans hx21)
          have HXF := Lib.hid ((HXW.out.trans HL18.out.held.ext).trans HX21.out)
          rw [decide_eq_true HP.out]
          clear hx21
          go_wp2
          go_ret
          exact ⟨rfl, HXF.out⟩
      · have hc1b : decide ((i : Int) < again) = false := decide_eq_false hc1
        have hol := open_last hH.out hR.out hM.out (by omega)
        have HOL := Lib.hid hol
        clear hol
        go_wp2_with fail
        refine HOL.out.mono ?_
        clear HOL
        rintro e w18 ⟨q18, L18, rfl, hL18, rfl, hK18⟩
        have hre := records_any hL18
        have HL18 := Lib.hid hL18
        have HRE := Lib.hid hre
        have HK18 := Lib.hid (hKp.out.trans hK18)
        clear hre hL18 hK18 hR hM hH
        go_wp2_with fail
        refine HRE.out.mono ?_
        clear HRE
        rintro e w19 ⟨v19, vs19, rfl, hR19, hx19⟩
        have hte := texts_any v19 _ w19 (hR19.rows (X := fun _ => True) (fun _ _ _ => trivial)) (by omega)
        have HTE := Lib.hid hte
        clear hte hR19
        go_wp2_with fail
        refine HTE.out.mono ?_
        clear HTE
        rintro e w20 ⟨v20, rfl, hown20, hx20⟩
        have HX20 := Lib.hid (hx19.trans hx20)
        have HO20 := Lib.hid hown20
        have hsa := same_any v20 v7 L18.recs aft w20 (Reads.of_own hown20 (str_ones _)) (Reads.of_own (HX20.out.keptOwn (HK18.out.own HA7.out HXA.out)) (str_ones aft))
        have HSA := Lib.hid hsa
        clear hsa hown20 hx20 hx19
        go_wp2_with fail
        refine HSA.out.mono ?_
        clear HSA
        rintro e w21 ⟨rfl, hx21⟩
        have HX21 := Lib.hid (HX20.out.trans hx21)
        have HXF := Lib.hid ((HXW.out.trans HL18.out.held.ext).trans HX21.out)
        rw [decide_eq_true HP.out]
        clear hx21
        go_wp2
        go_ret
        exact ⟨rfl, HXF.out⟩
  · subst q2
    have HLE := Lib.hid q4
    have HH15 := Lib.hid HL12.out.held
    have HK15 := Lib.hid HK12.out
    clear q4 HL12 DN HRECS
    have hcu := held_cut HH15.out
    have HCU := Lib.hid hcu
    clear hcu
    go_wp2_with fail
    refine HCU.out.mono ?_
    clear HCU
    rintro e w16 ⟨rfl, hst16⟩
    have hrs := held_restart_X hst16.1 (.slice ka keep.length kc) keep (HK.out.ext (HXW.out.trans hst16.1.ext)) HKR.out
    rw [W5.restart_cut] at hrs
    have HRS := Lib.hid hrs
    have HK16 := Lib.hid (HK15.out.trans hst16.2)
    clear hrs hst16
    go_wp2_with fail
    refine HRS.out.mono ?_
    clear HRS
    rintro e w17 ⟨rfl, hst17⟩
    obtain ⟨ls, hP, hrest, harm⟩ := HLE.out.rest keep hst17.1.okd
    have HH17 := Lib.hid hst17.1
    have HR17 := Lib.hid hrest
    have HM17 := Lib.hid harm
    have HK17 := Lib.hid (HK16.out.trans hst17.2)
    have HP := Lib.hid hP
    have hll : ls.length ≤ 2048 := by rcases hP with hP | hP <;> rw [hP] <;> omega
    clear hst17 hrest harm hP HK16 HK15 HH15 HLE
    generalize D.restart L3.d keep = R0 at *
    go_wp2
    go_loopw [19] (fun iv wr => ∃ i : Nat, ∃ d : D.Dsk, i ≤ 3 ∧ iv = .int .i64 (i : Int) ∧ Hid (Held w1 wr XV p d) ∧ Hid (W5.Rest d ls (g + 1 + 2 * i)) ∧ Hid (d.armed = false) ∧ Hid (Keeps XV w7 wr)) (fun iv _ => 3 - (intOf iv).toNat)
    case atStart => exact ⟨0, R0, by omega, rfl, HH17.out, HR17.out, HM17.out, HK17.out⟩
    case round =>
      clear HH17 HR17 HM17 HK17
      obtain ⟨i, d, hi, rfl, hH, hR, hM, hKp⟩ := hrel
      by_cases hc1 : (i : Int) < again
      · by_cases hc2 : i < 3
        · have hc2i : (i : Int) < 3 := by omega
          go_wp2_with fail
          all_goals
            refine (fuse_rest hH.out hR.out (by omega)).mono ?_
            rintro e w18 ⟨d18, z18, rfl, hst18, hr18⟩
            have hop := open_rest hst18.1 hr18 (by omega)
            have HOP := Lib.hid hop
            have HK18 := Lib.hid (hKp.out.trans hst18.2)
            clear hop hst18 hr18
            go_wp2_with fail
            refine HOP.out.mono ?_
            clear HOP
            rintro e w19 ⟨d19, v19, z19, rfl, hz19, hst19, hle19⟩
            have hcu := held_cut hst19.1
            have HCU := Lib.hid hcu
            have HK19 := Lib.hid (HK18.out.trans hst19.2)
            have HLE := Lib.hid hle19
            clear hcu hst19 hle19 HK18
            rcases hz19 with rfl | rfl
            all_goals
              go_wp2_with fail
              refine HCU.out.mono ?_
              clear HCU
              rintro e w20 ⟨rfl, hst20⟩
              have hrs := held_restart_X hst20.1 (.slice ka keep.length kc) keep (HK.out.ext (HXW.out.trans hst20.1.ext)) HKR.out
              rw [W5.restart_cut] at hrs
              have HRS := Lib.hid hrs
              have HK20 := Lib.hid (HK19.out.trans hst20.2)
              clear hrs hst20
              go_wp2_with fail
              refine HRS.out.mono ?_
              clear HRS
              rintro e w21 ⟨rfl, hst21⟩
              obtain ⟨l2, rfl, hrest, harm⟩ := HLE.out.rest keep hst21.1.okd
              have HH21 := Lib.hid hst21.1
              have HR21 := Lib.hid (show W5.Rest (D.restart d19 keep) l2 (g + 1 + 2 * (i + 1)) from hrest)
              have HM21 := Lib.hid harm
              have HK21 := Lib.hid (HK20.out.trans hst21.2)
              clear hst21 hrest harm
              go_wp2
              go_roundw
              case rel => exact ⟨i + 1, _, by omega, by go_num, HH21, HR21, HM21, HK21⟩
              case measure => (simp [intOf]; try omega)
        · obtain rfl : i = 3 := by omega
          have hol := open_last hH.out hR.out hM.out (by omega)
          have HOL := Lib.hid hol
          clear hol
          go_wp2_with fail
          refine HOL.out.mono ?_
          clear HOL
          rintro e w18 ⟨q18, L18, rfl, hL18, rfl, hK18⟩
          have hre := records_any hL18
          have HL18 := Lib.hid hL18
          have HRE := Lib.hid hre
          have HK18 := Lib.hid (hKp.out.trans hK18)
          clear hre hL18 hK18 hR hM hH
          go_wp2_with fail
          refine HRE.out.mono ?_
          clear HRE
          rintro e w19 ⟨v19, vs19, rfl, hR19, hx19⟩
          have hte := texts_any v19 _ w19 (hR19.rows (X := fun _ => True) (fun _ _ _ => trivial)) (by omega)
          have HTE := Lib.hid hte
          clear hte hR19
          go_wp2_with fail
          refine HTE.out.mono ?_
          clear HTE
          rintro e w20 ⟨v20, rfl, hown20, hx20⟩
          have HX20 := Lib.hid (hx19.trans hx20)
          have HO20 := Lib.hid hown20
          have hsa := same_any v20 v7 L18.recs aft w20 (Reads.of_own hown20 (str_ones _)) (Reads.of_own (HX20.out.keptOwn (HK18.out.own HA7.out HXA.out)) (str_ones aft))
          have HSA := Lib.hid hsa
          clear hsa hown20 hx20 hx19
          go_wp2_with fail
          refine HSA.out.mono ?_
          clear HSA
          rintro e w21 ⟨rfl, hx21⟩
          have HX21 := Lib.hid (HX20.out.trans hx21)
          have HXF := Lib.hid ((HXW.out.trans HL18.out.held.ext).trans HX21.out)
          by_cases heq : L18.recs = aft
          · rw [decide_eq_true heq]
            clear hx21 heq
            go_wp2
            go_ret
            exact ⟨rfl, HXF.out⟩
          · rw [decide_eq_false heq]
            have hrr : L18.recs = recs := HP.out.resolve_right heq
            have hsb := same_any v20 v4 L18.recs recs w21 (Reads.of_own (hx21.keptOwn HO20.out) (str_ones _)) (Reads.of_own (HX21.out.keptOwn (HK18.out.own HO7.out HXO.out)) (str_ones recs))
            rw [decide_eq_true hrr] at hsb
            have HSB := Lib.hid hsb
            clear hsb hx21 heq hrr
            go_wp2_with fail
            refine HSB.out.mono ?_
            clear HSB
            rintro e w22 ⟨rfl, hx22⟩
            have HXG := Lib.hid (HXF.out.trans hx22)
            clear hx22
            go_wp2
            go_ret
            exact ⟨rfl, HXG.out⟩
      · have hc1b : decide ((i : Int) < again) = false := decide_eq_false hc1
        have hol := open_last hH.out hR.out hM.out (by omega)
        have HOL := Lib.hid hol
        clear hol
        go_wp2_with fail
        refine HOL.out.mono ?_
        clear HOL
        rintro e w18 ⟨q18, L18, rfl, hL18, rfl, hK18⟩
        have hre := records_any hL18
        have HL18 := Lib.hid hL18
        have HRE := Lib.hid hre
        have HK18 := Lib.hid (hKp.out.trans hK18)
        clear hre hL18 hK18 hR hM hH
        go_wp2_with fail
        refine HRE.out.mono ?_
        clear HRE
        rintro e w19 ⟨v19, vs19, rfl, hR19, hx19⟩
        have hte := texts_any v19 _ w19 (hR19.rows (X := fun _ => True) (fun _ _ _ => trivial)) (by omega)
        have HTE := Lib.hid hte
        clear hte hR19
        go_wp2_with fail
        refine HTE.out.mono ?_
        clear HTE
        rintro e w20 ⟨v20, rfl, hown20, hx20⟩
        have HX20 := Lib.hid (hx19.trans hx20)
        have HO20 := Lib.hid hown20
        have hsa := same_any v20 v7 L18.recs aft w20 (Reads.of_own hown20 (str_ones _)) (Reads.of_own (HX20.out.keptOwn (HK18.out.own HA7.out HXA.out)) (str_ones aft))
        have HSA := Lib.hid hsa
        clear hsa hown20 hx20 hx19
        go_wp2_with fail
        refine HSA.out.mono ?_
        clear HSA
        rintro e w21 ⟨rfl, hx21⟩
        have HX21 := Lib.hid (HX20.out.trans hx21)
        have HXF := Lib.hid ((HXW.out.trans HL18.out.held.ext).trans HX21.out)
        by_cases heq : L18.recs = aft
        · rw [decide_eq_true heq]
          clear hx21 heq
          go_wp2
          go_ret
          exact ⟨rfl, HXF.out⟩
        · rw [decide_eq_false heq]
          have hrr : L18.recs = recs := HP.out.resolve_right heq
          have hsb := same_any v20 v4 L18.recs recs w21 (Reads.of_own (hx21.keptOwn HO20.out) (str_ones _)) (Reads.of_own (HX21.out.keptOwn (HK18.out.own HO7.out HXO.out)) (str_ones recs))
          rw [decide_eq_true hrr] at hsb
          have HSB := Lib.hid hsb
          clear hsb hx21 heq hrr
          go_wp2_with fail
          refine HSB.out.mono ?_
          clear HSB
          rintro e w22 ⟨rfl, hx22⟩
          have HXG := Lib.hid (HXF.out.trans hx22)
          clear hx22
          go_wp2
          go_ret
          exact ⟨rfl, HXG.out⟩

set_option maxRecDepth 100000 in
set_option maxHeartbeats 12800000 in
theorem lasts_an (n cut again mask kind li ln size : Int) (sv dv kv0 kkv : Value) (l : List Act5) (data : List UInt8) (keep : List Bool) (w : World) (hs : ActsIn w sv l) (hl : l.length ≤ 40) (h1 : 4 ≤ n) (h2 : n ≤ 60)
    (hb : Bs w dv data) (hk : Reads w kkv (keep.map Value.bool)) (hkind : kind ≠ 1) (hcut : cut < 0) (hcm : cut ≤ 9223372036854775807) (ha1 : -9223372036854775808 ≤ again) (ha2 : again ≤ 9223372036854775807) :
    Calls Try.prog 7 #[.int .i64 n, sv, .agg #[.int .i64 kind, .int .i64 li, .int .i64 ln, .int .i64 size, dv, kv0, .int .u8 mask], .int .i64 cut, kkv, .int .i64 again] w fun e w' => e = .returned (.bool true) ∧ Ext w w' := by
  obtain ⟨i0, hi0, hz0, hz1, hz2⟩ := info_parts info_str
  obtain ⟨a, cap, rfl, _⟩ := hs.shape
  obtain ⟨da, dc, rfl⟩ := hb.shape
  obtain ⟨ka, kc, hkv⟩ := hk.shape
  rw [List.length_map] at hkv
  subst hkv
  have HS := Lib.hid hs
  have HB := Lib.hid hb
  have HK := Lib.hid hk
  have HKX := Lib.hid hk.block_lt5
  clear hs hb hk
  have hxb := Ext.of_alloc w (.cells #[.int .i64 kind, .int .i64 li, .int .i64 ln, .int .i64 size, .slice da data.length dc, kv0, .int .u8 mask] 70)
  have hbx := fun (v : World) hx => box_at w #[.int .i64 kind, .int .i64 li, .int .i64 ln, .int .i64 size, .slice da data.length dc, kv0, .int .u8 mask] 70 (v := v) hx
  have hkb : (kind == 1) = false := by rw [beq_eq_false_iff_ne]; exact hkind
  go_enter Try.func7, Try.ntmps7
  go_wp2_with fail
  refine (awake5 _).mono ?_
  rintro e w1 ⟨rfl, hx1⟩
  have hblt : w.heap.size < w1.heap.size := blk_lt (hbx w1 hx1)
  have HXW := Lib.hid (hxb.trans hx1)
  have HBX := Lib.hid (fun (v : World) (hv : Ext w1 v) => hbx v (hx1.trans hv))
  clear hx1 hxb hbx
  go_wp2_with fail
  refine (begunS n _ l w1 (HS.out.ext HXW.out) hl h1 h2).mono ?_
  rintro e w2 ⟨p, q, Y, g, recs, rfl, hL, hlv, hyn, hya, hg1, hg2⟩
  have hrl : recs.length ≤ 2047 := by
    have := W5.len_le_used recs
    have := hlv.fit
    have := W5.area_le Y hL.ok.n2
    omega
  have hre := records_any hL
  have HL2 := Lib.hid hL
  have HLV := Lib.hid hlv
  have HRE := Lib.hid hre
  clear hre hL hlv
  go_wp2_with fail
  refine HRE.out.mono ?_
  clear HRE
  rintro e w3 ⟨v3, vs3, rfl, hR3, hx3⟩
  have hte := texts_any v3 _ w3 (hR3.rows (X := fun _ => True) (fun _ _ _ => trivial)) (by omega)
  have HTE := Lib.hid hte
  clear hte hR3
  go_wp2_with fail
  refine HTE.out.mono ?_
  clear HTE
  rintro e w4 ⟨v4, rfl, hown4, hx4⟩
  have HX4 := Lib.hid (hx3.trans hx4)
  have HO4 := Lib.hid (ownsRow_base5 hown4 hx3.size)
  clear hown4 hx3 hx4
  have hx14 := HL2.out.held.ext.trans HX4.out
  have hb4 := HBX.out w4 hx14
  have c3 : w4.cell? ⟨w.heap.size, 3, none⟩ = some (.int .i64 size) := (cell_of_row w4 w.heap.size 3 _ _ _ hb4).trans rfl
  have c4 : w4.cell? ⟨w.heap.size, 4, none⟩ = some (.slice da data.length dc) := (cell_of_row w4 w.heap.size 4 _ _ _ hb4).trans rfl
  have hbd4 := HB.out.ext (HXW.out.trans hx14)
  have hx0 := Ext.of_drew w4
  have hxa := Ext.of_alloc w4.drew (.cells #[] 9)
  have hre := fun (w' : World) (hx2 : Ext w4 w') => record_any _ data size w' (hbd4.ext hx2)
  unfold MadeB at hre
  have hrec4 := Reads.of_own HO4.out (str_ones recs)
  have hown4e := own_empty w4.drew w4.drew.heap.size 9 (Nat.le_refl _)
  have hrml : (recs.map strV).length ≤ 2047 := by rw [List.length_map]; exact hrl
  have hlen := W5.record_len data size
  have hrn := W5.recN_le size
  rw [← hlen] at hrn
  clear hlen
  have HRECS := Lib.hid (fun (w' : World) (h : Bs w' (.slice da data.length dc) data) => record_any _ data size w' h)
  unfold MadeB at HRECS
  generalize W5.record data size = B at *
  go_wp2_with fail
  have hHeld : w4.drew.cell? ⟨w.heap.size, 3, none⟩ = some (.int .i64 size) ∧ w4.drew.cell? ⟨w.heap.size, 4, none⟩ = some (.slice da data.length dc) := ⟨Ext.cell hx0 c3, Ext.cell hx0 c4⟩
  refine wp_region_C (fun w' => w'.cell? ⟨w.heap.size, 3, none⟩ = some (.int .i64 size) ∧ w'.cell? ⟨w.heap.size, 4, none⟩ = some (.slice da data.length dc)) 10 (by kernel_rfl) ?_
  (refine wpAnyC_take [2, 10] (i := 1) (oi := ⟨some 51, _, _, _, _, _⟩) (v := ?_) rfl (by kernel_rfl) (by kernel_rfl) (by kernel_rfl) (by kernel_rfl) (fun _ _ _ h => h) (Or.inl ⟨by rfl, ?_⟩) hHeld ?_; rotate_left; (focus (intro w hSw; (obtain ⟨hSw1, hSw2⟩ := hSw); go_simp; first | done | with_reducible rfl)); try simp only [Act.put, List.setIfInBounds_toArray, List.set_cons_zero, List.set_cons_succ])
  (refine wpAnyC_take [4, 7, 10] (i := 3) (oi := ⟨some 53, _, _, _, _, _⟩) (v := ?_) rfl (by kernel_rfl) (by kernel_rfl) (by kernel_rfl) (by kernel_rfl) (fun _ _ _ h => h) (Or.inl ⟨by rfl, ?_⟩) hHeld ?_; rotate_left; (focus (intro w hSw; (obtain ⟨hSw1, hSw2⟩ := hSw); go_simp; first | done | with_reducible rfl)); try simp only [Act.put, List.setIfInBounds_toArray, List.set_cons_zero, List.set_cons_succ])
  (refine wpAnyC_take [7, 10] (i := 4) (oi := ⟨some 54, _, _, _, _, _⟩) (v := ?_) rfl (by kernel_rfl) (by kernel_rfl) (by kernel_rfl) (by kernel_rfl) (fun _ _ _ h => h) (Or.inl ⟨by rfl, ?_⟩) hHeld ?_; rotate_left; (focus (intro w hSw; (obtain ⟨hSw1, hSw2⟩ := hSw); go_simp; first | done | with_reducible rfl)); try simp only [Act.put, List.setIfInBounds_toArray, List.set_cons_zero, List.set_cons_succ])
  (refine wpAnyC_take [6, 7, 10] (i := 5) (oi := ⟨some 55, _, _, _, _, _⟩) (v := ?_) rfl (by kernel_rfl) (by kernel_rfl) (by kernel_rfl) (by kernel_rfl) (fun _ _ _ h => h) (Or.inl ⟨by rfl, ?_⟩) hHeld ?_; rotate_left; (focus (intro w hSw; (obtain ⟨hSw1, hSw2⟩ := hSw); go_simp; first | done | with_reducible rfl)); try simp only [Act.put, List.setIfInBounds_toArray, List.set_cons_zero, List.set_cons_succ])
  (refine wpAnyC_take [7, 10] (i := 6) (oi := ⟨some 56, _, _, _, _, _⟩) (v := ?_) rfl (by kernel_rfl) (by kernel_rfl) (by kernel_rfl) (by kernel_rfl) (fun _ _ _ h => h) (Or.inl ⟨by rfl, ?_⟩) hHeld ?_; rotate_left; (focus (intro w hSw; (obtain ⟨hSw1, hSw2⟩ := hSw); go_simp; first | done | with_reducible rfl)); try simp only [Act.put, List.setIfInBounds_toArray, List.set_cons_zero, List.set_cons_succ])
  refine wpAnyC_one (i := 0) (oi := ⟨some 50, _, _, _, _, _⟩) rfl (by kernel_rfl) (by decide) (fun K hK => ?_)
  rw [if_pos (by rfl)]
  go_simp
  refine hK.out _ _ ⟨Ext.cell (hx0.trans hxa) c3, Ext.cell (hx0.trans hxa) c4⟩ ?_
  clear hK K
  try simp only [Act.put, List.setIfInBounds_toArray, List.set_cons_zero, List.set_cons_succ]
  refine wpAnyC_one (i := 2) (oi := ⟨some 52, _, _, _, _, _⟩) rfl (by kernel_rfl) (by decide) (fun K hK => ?_)
  rw [if_pos (by rfl)]
  refine wp_append_reads _ _ _ 30 rfl w4.drew.heap.size 9 i0 (.string ⟨#[]⟩) 16 Try.underlying30 hi0 hz0 hz1 hz2 rfl _ 0 [] rfl hown4e v4 (recs.map strV) rfl (hrec4.ext (hx0.trans hxa)) (by unfold maxLen; omega) (by omega) hxa.size ?_
  intro v5 w5 hown5 hgrow5
  have hx5 : Ext w4 w5 := (hx0.trans hxa).grown hgrow5 (fun k hk => (hown4e.lt k hk).1)
  refine hK.out _ _ ⟨Ext.cell (hx5) c3, Ext.cell (hx5) c4⟩ ?_
  clear hK K
  try simp only [Act.put, List.setIfInBounds_toArray, List.set_cons_zero, List.set_cons_succ]
  refine wpAnyC_one (i := 7) (oi := ⟨some 57, _, _, _, _, _⟩) rfl (by kernel_rfl) (by decide) (fun K hK => ?_)
  rw [if_pos (by rfl)]
  go_simp
  go_at_call 16
  refine (hre _ hx5).mono ?_
  rintro e w6 ⟨v6, rfl, hown6, hx6⟩
  obtain ⟨va, vc, rfl⟩ := (Bs.of_own hown6).shape
  have cv := (Bs.of_own hown6).toString (P := Try.prog) 31 9 5 Try.underlying31 Try.underlying5 Try.underlying9
  have hx7a := (hx5.trans hx6).trans (Ext.of_alloc w6 (.cells #[strV B] 9))
  have hown7a := (hx6.trans (Ext.of_alloc w6 (.cells #[strV B] 9))).keptOwn hown5
  refine hK.out _ _ ⟨Ext.cell (hx5.trans hx6) c3, Ext.cell (hx5.trans hx6) c4⟩ ?_
  clear hK K
  try simp only [Act.put, List.setIfInBounds_toArray, List.set_cons_zero, List.set_cons_succ]
  refine wpAnyC_one (i := 8) (oi := ⟨some 58, _, _, _, _, _⟩) rfl (by kernel_rfl) (by decide) (fun K hK => ?_)
  rw [if_pos (by rfl)]
  go_simp
  refine hK.out _ _ ⟨Ext.cell (hx5.trans hx6) c3, Ext.cell (hx5.trans hx6) c4⟩ ?_
  clear hK K
  try simp only [Act.put, List.setIfInBounds_toArray, List.set_cons_zero, List.set_cons_succ]
  refine wpAnyC_one (i := 9) (oi := ⟨some 59, _, _, _, _, _⟩) rfl (by kernel_rfl) (by decide) (fun K hK => ?_)
  rw [if_pos (by rfl)]
  go_simp
  refine hK.out _ _ ⟨Ext.cell (hx7a) c3, Ext.cell (hx7a) c4⟩ ?_
  clear hK K
  try simp only [Act.put, List.setIfInBounds_toArray, List.set_cons_zero, List.set_cons_succ]
  refine wpAnyC_c (oi := ⟨some 60, _, _, _, _, _⟩) rfl (by kernel_rfl) (fun K hK => ?_)
  rw [if_pos (by rfl)]
  refine wp_append_reads _ _ _ 30 rfl w4.drew.heap.size 9 i0 (.string ⟨#[]⟩) 16 Try.underlying30 hi0 hz0 hz1 hz2 rfl v5 (0 + (recs.map strV).length) ([] ++ recs.map strV) rfl hown7a _ [strV B] rfl (Reads.one w6 (strV B) 9 rfl) (by unfold maxLen; simp only [List.length_singleton]; omega) (by simp only [List.length_singleton]; omega) hx7a.size ?_
  intro v7 w7 hown7 hgrow7
  have hx7 : Ext w4 w7 := hx7a.grown hgrow7 (fun k hk => (hown7a.lt k hk).1)
  refine hK.out _ _ ?_
  clear hK K
  try simp only [Act.put, List.setIfInBounds_toArray, List.set_cons_zero, List.set_cons_succ]
  (refine wpAny_take (i := 11) (oi := ⟨some 17, _, _, _, _, _⟩) (v := ?_) rfl (by kernel_rfl) (by kernel_rfl) (by kernel_rfl) (fun _ _ _ h => h) (Or.inl ⟨by rfl, ?_⟩) ?_; rotate_left; (focus (intro w; go_simp; first | done | with_reducible rfl)); try simp only [Act.put, List.setIfInBounds_toArray, List.set_cons_zero, List.set_cons_succ])
  refine wpAny_done (by kernel_rfl) ?_ _
  have HX7 := Lib.hid (HX4.out.trans hx7)
  have HA7 := Lib.hid (show w7.ownsRow w2.heap.size 9 1 v7 (recs ++ [B]).length ((recs ++ [B]).map strV) by
    have h := ownsRow_base5 hown7 (base' := w2.heap.size) HX4.out.size
    rw [List.length_append, List.map_append]
    simpa using h)
  have HO7 := Lib.hid (hx7.keptOwn HO4.out)
  have hb7 := HBX.out w7 (HL2.out.held.ext.trans HX7.out)
  have hBl : B.length ≤ 10000 := hrn
  clear hown7 hgrow7 hx7 hx7a hown7a cv hown6 hx6 hown5 hgrow5 hx5 hx0 hxa hown4e hrec4 hHeld c3 c4 hb4 hbd4 hre hx14 HX4 HO4
  obtain ⟨aft, haft⟩ : ∃ aft, aft = recs ++ [B] := ⟨_, rfl⟩
  rw [← haft] at HA7
  have c0 : w7.cell? ⟨w.heap.size, 0, none⟩ = some (.int .i64 kind) := (cell_of_row w7 w.heap.size 0 _ _ _ hb7).trans rfl
  have HAF := Lib.hid haft
  have hal : aft.length ≤ 2048 := by rw [haft, List.length_append]; simp; omega
  clear haft
  have HLv := Lib.hid (HL2.out.all HX7.out)
  have HXO := Lib.hid (show ∀ k, v4.ownBlock = some k → New (fun k => k < w1.heap.size) w2 w7 k from fun k hk => .inr (HO7.out.lt k hk))
  have HXA := Lib.hid (show ∀ k, v7.ownBlock = some k → New (fun k => k < w1.heap.size) w2 w7 k from fun k hk => .inr (HA7.out.lt k hk))
  have HX1 := Lib.hid (show ∀ k, k < w1.heap.size → New (fun k => k < w1.heap.size) w2 w7 k from fun k hk => .inl hk)
  have hbxx := Lib.hid hb7
  generalize New (fun k => k < w1.heap.size) w2 w7 = XV at *
  have HKR := Lib.hid (show keep = [] ∨ ∀ k, (Value.slice ka keep.length kc).ownBlock = some k → XV k from HKX.out.imp (fun h => List.map_eq_nil_iff.1 h) (fun h k hk => HX1.out k (Nat.lt_of_lt_of_le (h k hk) HXW.out.size)))
  have hcb : decide (0 ≤ cut) = false := decide_eq_false (by omega)
  have HL10 := Lib.hid HLv.out
  have HLV10 := Lib.hid HLV.out
  have HK10 := Lib.hid (Keeps.refl XV w7)
  have hb10 : w7.heap[w.heap.size]? = some _ := blk_mod hbxx.out HK10.out (fun hn => hn (HX1.out _ hblt))
  have hx110 := HL10.out.held.ext
  have e0 : w7.cell? ⟨w.heap.size, 0, none⟩ = some (.int .i64 kind) := (cell_of_row w7 w.heap.size 0 _ _ _ hb10).trans rfl
  have e1 : w7.cell? ⟨w.heap.size, 1, none⟩ = some (.int .i64 li) := (cell_of_row w7 w.heap.size 1 _ _ _ hb10).trans rfl
  have e2 : w7.cell? ⟨w.heap.size, 2, none⟩ = some (.int .i64 ln) := (cell_of_row w7 w.heap.size 2 _ _ _ hb10).trans rfl
  have e3 : w7.cell? ⟨w.heap.size, 3, none⟩ = some (.int .i64 size) := (cell_of_row w7 w.heap.size 3 _ _ _ hb10).trans rfl
  have e4 : w7.cell? ⟨w.heap.size, 4, none⟩ = some (.slice da data.length dc) := (cell_of_row w7 w.heap.size 4 _ _ _ hb10).trans rfl
  have e5 : w7.cell? ⟨w.heap.size, 5, none⟩ = some kv0 := (cell_of_row w7 w.heap.size 5 _ _ _ hb10).trans rfl
  have e6 : w7.cell? ⟨w.heap.size, 6, none⟩ = some (.int .u8 mask) := (cell_of_row w7 w.heap.size 6 _ _ _ hb10).trans rfl
  have hbd10 := HB.out.ext (HXW.out.trans hx110)
  have HXC := Lib.hid hx110
  clear hb10 hx110
  have hre := HRECS.out w7 hbd10
  have HRE := Lib.hid hre
  clear hre
  go_wp2_with fail
  refine HRE.out.mono ?_
  clear HRE
  rintro e w11 ⟨v11, rfl, hown11, hx11⟩
  have hap := append_new HL10.out hx11 v11 B (Bs.of_own hown11) (fun k hk => .inr (hown11.lt k hk)) (by simp only; rw [HLV10.out.wait]; exact Nat.zero_le _)
  have HAP := Lib.hid hap
  have DN := Lib.hid (W5.done_append HLV10.out B)
  rw [← HAF.out] at DN
  clear hap hown11 hx11 e0 e1 e2 e3 e4 e5 e6 hbd10
  generalize W5.append ⟨Y, g, recs, false⟩ B = RR at *
  go_wp2_with fail
  refine HAP.out.mono ?_
  clear HAP
  rintro e w12 ⟨rfl, hL12, hK12⟩
  have HL12 := Lib.hid hL12
  have HK12 := Lib.hid (HK10.out.trans hK12)
  clear hL12 hK12 HL10 HLV10 HK10
  obtain ⟨L3, E3⟩ := RR
  simp only at HL12 ⊢
  have HOV := Lib.hid (HK12.out.own HO7.out HXO.out)
  have HAV := Lib.hid (HK12.out.own HA7.out HXA.out)
  unfold W5.Done at DN
  simp only at DN
  obtain ⟨c0, c1⟩ : True ∧ True := ⟨trivial, trivial⟩
  clear c0 c1
  rcases DN.out with ⟨q1, q2⟩ | ⟨q2, q3, q4⟩ | ⟨q2, q4⟩
  · rw [q1] at HL12
    rcases q2 with q2 | q2
    · subst q2
      have hre := records_any HL12.out
      have HRE := Lib.hid hre
      clear hre
      go_wp2_with fail
      refine HRE.out.mono ?_
      clear HRE
      rintro e w13 ⟨v13, vs13, rfl, hR13, hx13⟩
      have hte := texts_any v13 _ w13 (hR13.rows (X := fun _ => True) (fun _ _ _ => trivial)) (by omega)
      have HTE := Lib.hid hte
      clear hte hR13
      go_wp2_with fail
      refine HTE.out.mono ?_
      clear HTE
      rintro e w14 ⟨v14, rfl, hown14, hx14⟩
      have hsa := same_any v14 v4 recs recs w14 (Reads.of_own hown14 (str_ones recs)) (Reads.of_own ((hx13.trans hx14).keptOwn HOV.out) (str_ones recs))
      rw [decide_eq_true rfl] at hsa
      have HSA := Lib.hid hsa
      have HXF := Lib.hid ((HXW.out.trans HL12.out.held.ext).trans (hx13.trans hx14))
      clear hsa hown14 hx14 hx13
      go_wp2_with fail
      refine HSA.out.mono ?_
      rintro e w15 ⟨rfl, hx15⟩
      have HXG := Lib.hid (HXF.out.trans hx15)
      clear hx15
      go_wp2
      go_ret
      exact ⟨rfl, HXG.out⟩
    · subst q2
      have hre := records_any HL12.out
      have HRE := Lib.hid hre
      clear hre
      go_wp2_with fail
      refine HRE.out.mono ?_
      clear HRE
      rintro e w13 ⟨v13, vs13, rfl, hR13, hx13⟩
      have hte := texts_any v13 _ w13 (hR13.rows (X := fun _ => True) (fun _ _ _ => trivial)) (by omega)
      have HTE := Lib.hid hte
      clear hte hR13
      go_wp2_with fail
      refine HTE.out.mono ?_
      clear HTE
      rintro e w14 ⟨v14, rfl, hown14, hx14⟩
      have hsa := same_any v14 v4 recs recs w14 (Reads.of_own hown14 (str_ones recs)) (Reads.of_own ((hx13.trans hx14).keptOwn HOV.out) (str_ones recs))
      rw [decide_eq_true rfl] at hsa
      have HSA := Lib.hid hsa
      have HXF := Lib.hid ((HXW.out.trans HL12.out.held.ext).trans (hx13.trans hx14))
      clear hsa hown14 hx14 hx13
      go_wp2_with fail
      refine HSA.out.mono ?_
      rintro e w15 ⟨rfl, hx15⟩
      have HXG := Lib.hid (HXF.out.trans hx15)
      clear hx15
      go_wp2
      go_ret
      exact ⟨rfl, HXG.out⟩
  · subst q2
    have hre := records_any HL12.out
    rw [q3] at hre
    have HRE := Lib.hid hre
    have HLE := Lib.hid q4
    clear hre q3 q4 DN
    go_wp2_with fail
    refine HRE.out.mono ?_
    clear HRE
    rintro e w13 ⟨v13, vs13, rfl, hR13, hx13⟩
    have hte := texts_any v13 _ w13 (hR13.rows (X := fun _ => True) (fun _ _ _ => trivial)) (by omega)
    have HTE := Lib.hid hte
    clear hte hR13
    go_wp2_with fail
    refine HTE.out.mono ?_
    clear HTE
    rintro e w14 ⟨v14, rfl, hown14, hx14⟩
    have hsa := same_any v14 v7 aft aft w14 (Reads.of_own hown14 (str_ones aft)) (Reads.of_own ((hx13.trans hx14).keptOwn HAV.out) (str_ones aft))
    rw [decide_eq_true rfl] at hsa
    have HSA := Lib.hid hsa
    have HX14 := Lib.hid (hx13.trans hx14)
    clear hsa hown14 hx14 hx13
    go_wp2_with fail
    refine HSA.out.mono ?_
    clear HSA
    rintro e w15 ⟨rfl, hx15⟩
    have HH15 := Lib.hid (HL12.out.held.after_ext (HX14.out.trans hx15))
    have HK15 := Lib.hid (HK12.out.trans (Keeps.of_ext (HX14.out.trans hx15)))
    clear hx15 HX14 HL12
    have hcu := held_cut HH15.out
    have HCU := Lib.hid hcu
    clear hcu
    go_wp2_with fail
    refine HCU.out.mono ?_
    clear HCU
    rintro e w16 ⟨rfl, hst16⟩
    have hrs := held_restart_X hst16.1 (.slice ka keep.length kc) keep (HK.out.ext (HXW.out.trans hst16.1.ext)) HKR.out
    rw [W5.restart_cut] at hrs
    have HRS := Lib.hid hrs
    have HK16 := Lib.hid (HK15.out.trans hst16.2)
    clear hrs hst16
    go_wp2_with fail
    refine HRS.out.mono ?_
    clear HRS
    rintro e w17 ⟨rfl, hst17⟩
    obtain ⟨ls, hP, hrest, harm⟩ := HLE.out.rest keep hst17.1.okd
    have HH17 := Lib.hid hst17.1
    have HR17 := Lib.hid hrest
    have HM17 := Lib.hid harm
    have HK17 := Lib.hid (HK16.out.trans hst17.2)
    have HP := Lib.hid hP
    have hll : ls.length ≤ 2048 := by rw [hP]; exact hal
    clear hst17 hrest harm hP HK16 HK15 HH15 HLE
    generalize D.restart L3.d keep = R0 at *
    go_wp2
    go_loopw [19] (fun iv wr => ∃ i : Nat, ∃ d : D.Dsk, i ≤ 3 ∧ iv = .int .i64 (i : Int) ∧ Hid (Held w1 wr XV p d) ∧ Hid (W5.Rest d ls (g + 1 + 2 * i)) ∧ Hid (d.armed = false) ∧ Hid (Keeps XV w7 wr)) (fun iv _ => 3 - (intOf iv).toNat)
    case atStart => exact ⟨0, R0, by omega, rfl, HH17.out, HR17.out, HM17.out, HK17.out⟩
    case round =>
      clear HH17 HR17 HM17 HK17
      obtain ⟨i, d, hi, rfl, hH, hR, hM, hKp⟩ := hrel
      by_cases hc1 : (i : Int) < again
      · by_cases hc2 : i < 3
        · have hc2i : (i : Int) < 3 := by omega
          go_wp2_with fail
          all_goals
            refine (fuse_rest hH.out hR.out (by omega)).mono ?_
            rintro e w18 ⟨d18, z18, rfl, hst18, hr18⟩
            have hop := open_rest hst18.1 hr18 (by omega)
            have HOP := Lib.hid hop
            have HK18 := Lib.hid (hKp.out.trans hst18.2)
            clear hop hst18 hr18
            go_wp2_with fail
            refine HOP.out.mono ?_
            clear HOP
            rintro e w19 ⟨d19, v19, z19, rfl, hz19, hst19, hle19⟩
            have hcu := held_cut hst19.1
            have HCU := Lib.hid hcu
            have HK19 := Lib.hid (HK18.out.trans hst19.2)
            have HLE := Lib.hid hle19
            clear hcu hst19 hle19 HK18
            rcases hz19 with rfl | rfl
            all_goals
              go_wp2_with fail
              refine HCU.out.mono ?_
              clear HCU
              rintro e w20 ⟨rfl, hst20⟩
              have hrs := held_restart_X hst20.1 (.slice ka keep.length kc) keep (HK.out.ext (HXW.out.trans hst20.1.ext)) HKR.out
              rw [W5.restart_cut] at hrs
              have HRS := Lib.hid hrs
              have HK20 := Lib.hid (HK19.out.trans hst20.2)
              clear hrs hst20
              go_wp2_with fail
              refine HRS.out.mono ?_
              clear HRS
              rintro e w21 ⟨rfl, hst21⟩
              obtain ⟨l2, rfl, hrest, harm⟩ := HLE.out.rest keep hst21.1.okd
              have HH21 := Lib.hid hst21.1
              have HR21 := Lib.hid (show W5.Rest (D.restart d19 keep) l2 (g + 1 + 2 * (i + 1)) from hrest)
              have HM21 := Lib.hid harm
              have HK21 := Lib.hid (HK20.out.trans hst21.2)
              clear hst21 hrest harm
              go_wp2
              go_roundw
              case rel => exact ⟨i + 1, _, by omega, by go_num, HH21, HR21, HM21, HK21⟩
              case measure => (simp [intOf]; try omega)
        · obtain rfl : i = 3 := by omega
          have hol := open_last hH.out hR.out hM.out (by omega)
          have HOL := Lib.hid hol
          clear hol
          go_wp2_with fail
          refine HOL.out.mono ?_
          clear HOL
          rintro e w18 ⟨q18, L18, rfl, hL18, rfl, hK18⟩
          have hre := records_any hL18
          have HL18 := Lib.hid hL18
          have HRE := Lib.hid hre
          have HK18 := Lib.hid (hKp.out.trans hK18)
          clear hre hL18 hK18 hR hM hH
          go_wp2_with fail
          refine HRE.out.mono ?_
          clear HRE
          rintro e w19 ⟨v19, vs19, rfl, hR19, hx19⟩
          have hte := texts_any v19 _ w19 (hR19.rows (X := fun _ => True) (fun _ _ _ => trivial)) (by omega)
          have HTE := Lib.hid hte
          clear hte hR19
          go_wp2_with fail
          refine HTE.out.mono ?_
          clear HTE
          rintro e w20 ⟨v20, rfl, hown20, hx20⟩
          have HX20 := Lib.hid (hx19.trans hx20)
          have HO20 := Lib.hid hown20
          have hsa := same_any v20 v7 L18.recs aft w20 (Reads.of_own hown20 (str_ones _)) (Reads.of_own (HX20.out.keptOwn (HK18.out.own HA7.out HXA.out)) (str_ones aft))
          have HSA := Lib.hid hsa
          clear hsa hown20 hx20 hx19
          go_wp2_with fail
          refine HSA.out.mono ?_
          clear HSA
          rintro e w21 ⟨rfl, hx21⟩
          have HX21 := Lib.hid (HX20.out.trans hx21)
          have HXF := Lib.hid ((HXW.out.trans HL18.out.held.ext).trans HX21.out)
          rw [decide_eq_true HP.out]
          clear hx21
          go_wp2
          go_ret
          exact ⟨rfl, HXF.out⟩
      · have hc1b : decide ((i : Int) < again) = false := decide_eq_false hc1
        have hol := open_last hH.out hR.out hM.out (by omega)
        have HOL := Lib.hid hol
        clear hol
        go_wp2_with fail
        refine HOL.out.mono ?_
        clear HOL
        rintro e w18 ⟨q18, L18, rfl, hL18, rfl, hK18⟩
        have hre := records_any hL18
        have HL18 := Lib.hid hL18
        have HRE := Lib.hid hre
        have HK18 := Lib.hid (hKp.out.trans hK18)
        clear hre hL18 hK18 hR hM hH
        go_wp2_with fail
        refine HRE.out.mono ?_
        clear HRE
        rintro e w19 ⟨v19, vs19, rfl, hR19, hx19⟩
        have hte := texts_any v19 _ w19 (hR19.rows (X := fun _ => True) (fun _ _ _ => trivial)) (by omega)
        have HTE := Lib.hid hte
        clear hte hR19
        go_wp2_with fail
        refine HTE.out.mono ?_
        clear HTE
        rintro e w20 ⟨v20, rfl, hown20, hx20⟩
        have HX20 := Lib.hid (hx19.trans hx20)
        have HO20 := Lib.hid hown20
        have hsa := same_any v20 v7 L18.recs aft w20 (Reads.of_own hown20 (str_ones _)) (Reads.of_own (HX20.out.keptOwn (HK18.out.own HA7.out HXA.out)) (str_ones aft))
        have HSA := Lib.hid hsa
        clear hsa hown20 hx20 hx19
        go_wp2_with fail
        refine HSA.out.mono ?_
        clear HSA
        rintro e w21 ⟨rfl, hx21⟩
        have HX21 := Lib.hid (HX20.out.trans hx21)
        have HXF := Lib.hid ((HXW.out.trans HL18.out.held.ext).trans HX21.out)
        rw [decide_eq_true HP.out]
        clear hx21
        go_wp2
        go_ret
        exact ⟨rfl, HXF.out⟩
  · subst q2
    have HLE := Lib.hid q4
    have HH15 := Lib.hid HL12.out.held
    have HK15 := Lib.hid HK12.out
    clear q4 HL12 DN HRECS
    have hcu := held_cut HH15.out
    have HCU := Lib.hid hcu
    clear hcu
    go_wp2_with fail
    refine HCU.out.mono ?_
    clear HCU
    rintro e w16 ⟨rfl, hst16⟩
    have hrs := held_restart_X hst16.1 (.slice ka keep.length kc) keep (HK.out.ext (HXW.out.trans hst16.1.ext)) HKR.out
    rw [W5.restart_cut] at hrs
    have HRS := Lib.hid hrs
    have HK16 := Lib.hid (HK15.out.trans hst16.2)
    clear hrs hst16
    go_wp2_with fail
    refine HRS.out.mono ?_
    clear HRS
    rintro e w17 ⟨rfl, hst17⟩
    obtain ⟨ls, hP, hrest, harm⟩ := HLE.out.rest keep hst17.1.okd
    have HH17 := Lib.hid hst17.1
    have HR17 := Lib.hid hrest
    have HM17 := Lib.hid harm
    have HK17 := Lib.hid (HK16.out.trans hst17.2)
    have HP := Lib.hid hP
    have hll : ls.length ≤ 2048 := by rcases hP with hP | hP <;> rw [hP] <;> omega
    clear hst17 hrest harm hP HK16 HK15 HH15 HLE
    generalize D.restart L3.d keep = R0 at *
    go_wp2
    go_loopw [19] (fun iv wr => ∃ i : Nat, ∃ d : D.Dsk, i ≤ 3 ∧ iv = .int .i64 (i : Int) ∧ Hid (Held w1 wr XV p d) ∧ Hid (W5.Rest d ls (g + 1 + 2 * i)) ∧ Hid (d.armed = false) ∧ Hid (Keeps XV w7 wr)) (fun iv _ => 3 - (intOf iv).toNat)
    case atStart => exact ⟨0, R0, by omega, rfl, HH17.out, HR17.out, HM17.out, HK17.out⟩
    case round =>
      clear HH17 HR17 HM17 HK17
      obtain ⟨i, d, hi, rfl, hH, hR, hM, hKp⟩ := hrel
      by_cases hc1 : (i : Int) < again
      · by_cases hc2 : i < 3
        · have hc2i : (i : Int) < 3 := by omega
          go_wp2_with fail
          all_goals
            refine (fuse_rest hH.out hR.out (by omega)).mono ?_
            rintro e w18 ⟨d18, z18, rfl, hst18, hr18⟩
            have hop := open_rest hst18.1 hr18 (by omega)
            have HOP := Lib.hid hop
            have HK18 := Lib.hid (hKp.out.trans hst18.2)
            clear hop hst18 hr18
            go_wp2_with fail
            refine HOP.out.mono ?_
            clear HOP
            rintro e w19 ⟨d19, v19, z19, rfl, hz19, hst19, hle19⟩
            have hcu := held_cut hst19.1
            have HCU := Lib.hid hcu
            have HK19 := Lib.hid (HK18.out.trans hst19.2)
            have HLE := Lib.hid hle19
            clear hcu hst19 hle19 HK18
            rcases hz19 with rfl | rfl
            all_goals
              go_wp2_with fail
              refine HCU.out.mono ?_
              clear HCU
              rintro e w20 ⟨rfl, hst20⟩
              have hrs := held_restart_X hst20.1 (.slice ka keep.length kc) keep (HK.out.ext (HXW.out.trans hst20.1.ext)) HKR.out
              rw [W5.restart_cut] at hrs
              have HRS := Lib.hid hrs
              have HK20 := Lib.hid (HK19.out.trans hst20.2)
              clear hrs hst20
              go_wp2_with fail
              refine HRS.out.mono ?_
              clear HRS
              rintro e w21 ⟨rfl, hst21⟩
              obtain ⟨l2, rfl, hrest, harm⟩ := HLE.out.rest keep hst21.1.okd
              have HH21 := Lib.hid hst21.1
              have HR21 := Lib.hid (show W5.Rest (D.restart d19 keep) l2 (g + 1 + 2 * (i + 1)) from hrest)
              have HM21 := Lib.hid harm
              have HK21 := Lib.hid (HK20.out.trans hst21.2)
              clear hst21 hrest harm
              go_wp2
              go_roundw
              case rel => exact ⟨i + 1, _, by omega, by go_num, HH21, HR21, HM21, HK21⟩
              case measure => (simp [intOf]; try omega)
        · obtain rfl : i = 3 := by omega
          have hol := open_last hH.out hR.out hM.out (by omega)
          have HOL := Lib.hid hol
          clear hol
          go_wp2_with fail
          refine HOL.out.mono ?_
          clear HOL
          rintro e w18 ⟨q18, L18, rfl, hL18, rfl, hK18⟩
          have hre := records_any hL18
          have HL18 := Lib.hid hL18
          have HRE := Lib.hid hre
          have HK18 := Lib.hid (hKp.out.trans hK18)
          clear hre hL18 hK18 hR hM hH
          go_wp2_with fail
          refine HRE.out.mono ?_
          clear HRE
          rintro e w19 ⟨v19, vs19, rfl, hR19, hx19⟩
          have hte := texts_any v19 _ w19 (hR19.rows (X := fun _ => True) (fun _ _ _ => trivial)) (by omega)
          have HTE := Lib.hid hte
          clear hte hR19
          go_wp2_with fail
          refine HTE.out.mono ?_
          clear HTE
          rintro e w20 ⟨v20, rfl, hown20, hx20⟩
          have HX20 := Lib.hid (hx19.trans hx20)
          have HO20 := Lib.hid hown20
          have hsa := same_any v20 v7 L18.recs aft w20 (Reads.of_own hown20 (str_ones _)) (Reads.of_own (HX20.out.keptOwn (HK18.out.own HA7.out HXA.out)) (str_ones aft))
          have HSA := Lib.hid hsa
          clear hsa hown20 hx20 hx19
          go_wp2_with fail
          refine HSA.out.mono ?_
          clear HSA
          rintro e w21 ⟨rfl, hx21⟩
          have HX21 := Lib.hid (HX20.out.trans hx21)
          have HXF := Lib.hid ((HXW.out.trans HL18.out.held.ext).trans HX21.out)
          by_cases heq : L18.recs = aft
          · rw [decide_eq_true heq]
            clear hx21 heq
            go_wp2
            go_ret
            exact ⟨rfl, HXF.out⟩
          · rw [decide_eq_false heq]
            have hrr : L18.recs = recs := HP.out.resolve_right heq
            have hsb := same_any v20 v4 L18.recs recs w21 (Reads.of_own (hx21.keptOwn HO20.out) (str_ones _)) (Reads.of_own (HX21.out.keptOwn (HK18.out.own HO7.out HXO.out)) (str_ones recs))
            rw [decide_eq_true hrr] at hsb
            have HSB := Lib.hid hsb
            clear hsb hx21 heq hrr
            go_wp2_with fail
            refine HSB.out.mono ?_
            clear HSB
            rintro e w22 ⟨rfl, hx22⟩
            have HXG := Lib.hid (HXF.out.trans hx22)
            clear hx22
            go_wp2
            go_ret
            exact ⟨rfl, HXG.out⟩
      · have hc1b : decide ((i : Int) < again) = false := decide_eq_false hc1
        have hol := open_last hH.out hR.out hM.out (by omega)
        have HOL := Lib.hid hol
        clear hol
        go_wp2_with fail
        refine HOL.out.mono ?_
        clear HOL
        rintro e w18 ⟨q18, L18, rfl, hL18, rfl, hK18⟩
        have hre := records_any hL18
        have HL18 := Lib.hid hL18
        have HRE := Lib.hid hre
        have HK18 := Lib.hid (hKp.out.trans hK18)
        clear hre hL18 hK18 hR hM hH
        go_wp2_with fail
        refine HRE.out.mono ?_
        clear HRE
        rintro e w19 ⟨v19, vs19, rfl, hR19, hx19⟩
        have hte := texts_any v19 _ w19 (hR19.rows (X := fun _ => True) (fun _ _ _ => trivial)) (by omega)
        have HTE := Lib.hid hte
        clear hte hR19
        go_wp2_with fail
        refine HTE.out.mono ?_
        clear HTE
        rintro e w20 ⟨v20, rfl, hown20, hx20⟩
        have HX20 := Lib.hid (hx19.trans hx20)
        have HO20 := Lib.hid hown20
        have hsa := same_any v20 v7 L18.recs aft w20 (Reads.of_own hown20 (str_ones _)) (Reads.of_own (HX20.out.keptOwn (HK18.out.own HA7.out HXA.out)) (str_ones aft))
        have HSA := Lib.hid hsa
        clear hsa hown20 hx20 hx19
        go_wp2_with fail
        refine HSA.out.mono ?_
        clear HSA
        rintro e w21 ⟨rfl, hx21⟩
        have HX21 := Lib.hid (HX20.out.trans hx21)
        have HXF := Lib.hid ((HXW.out.trans HL18.out.held.ext).trans HX21.out)
        by_cases heq : L18.recs = aft
        · rw [decide_eq_true heq]
          clear hx21 heq
          go_wp2
          go_ret
          exact ⟨rfl, HXF.out⟩
        · rw [decide_eq_false heq]
          have hrr : L18.recs = recs := HP.out.resolve_right heq
          have hsb := same_any v20 v4 L18.recs recs w21 (Reads.of_own (hx21.keptOwn HO20.out) (str_ones _)) (Reads.of_own (HX21.out.keptOwn (HK18.out.own HO7.out HXO.out)) (str_ones recs))
          rw [decide_eq_true hrr] at hsb
          have HSB := Lib.hid hsb
          clear hsb hx21 heq hrr
          go_wp2_with fail
          refine HSB.out.mono ?_
          clear HSB
          rintro e w22 ⟨rfl, hx22⟩
          have HXG := Lib.hid (HXF.out.trans hx22)
          clear hx22
          go_wp2
          go_ret
          exact ⟨rfl, HXG.out⟩
end Go.Proofs.Ytmcmocakfhedfaa
