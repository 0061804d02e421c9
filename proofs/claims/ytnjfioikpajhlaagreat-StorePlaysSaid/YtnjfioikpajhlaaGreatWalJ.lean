import Derived.Test.YtnjfioikpajhlaaGreatWalI
import Derived.Test.YtnjfioikpajhlaaGreatMBase
import Derived.Deep.Cut
set_option maxRecDepth 100000
set_option maxHeartbeats 64000000
/- wal: Append. (Printed by tools/mkappend.py.) -/
namespace Go.Proofs.YtnjfioikpajhlaaGreat
open Go.RowKit
namespace W5
structure Lg where
 d : D.Dsk
 gen : Nat
 recs : List (List UInt8)
 cl : Bool
def laid (L : Lg) (b : List UInt8) : D.Dsk × Int := lay L.d L.gen L.recs.length (used L.recs) b
def appended (L : Lg) (b : List UInt8) : D.Dsk × Int := if (laid L b).2 = 0 then (D.flush (laid L b).1, D.flushE (laid L b).1) else laid L b
def append (L : Lg) (b : List UInt8) : Lg × Int :=
 if L.cl = true then (L, 7) else if 8192 < b.length then (L, 2) else if area L.d < used L.recs + need b.length then (L, 6) else
 if (appended L b).2 = 0 then (⟨(appended L b).1, L.gen, L.recs ++ [b], L.cl⟩, 0) else (⟨(appended L b).1, L.gen, L.recs, true⟩, (appended L b).2)
theorem appended_eq (d : D.Dsk) (gen : Nat) (recs : List (List UInt8)) (cl : Bool) (b : List UInt8) : appended ⟨d, gen, recs, cl⟩ b = if (laid ⟨d, gen, recs, cl⟩ b).2 = 0 then (D.flush (laid ⟨d, gen, recs, cl⟩ b).1, D.flushE (laid ⟨d, gen, recs, cl⟩ b).1) else laid ⟨d, gen, recs, cl⟩ b := rfl
theorem append_eq (d : D.Dsk) (gen : Nat) (recs : List (List UInt8)) (cl : Bool) (b : List UInt8) : append ⟨d, gen, recs, cl⟩ b =
 if cl = true then (⟨d, gen, recs, cl⟩, 7) else if 8192 < b.length then (⟨d, gen, recs, cl⟩, 2) else if area d < used recs + need b.length then (⟨d, gen, recs, cl⟩, 6) else
 if (appended ⟨d, gen, recs, cl⟩ b).2 = 0 then (⟨(appended ⟨d, gen, recs, cl⟩ b).1, gen, recs ++ [b], cl⟩, 0) else (⟨(appended ⟨d, gen, recs, cl⟩ b).1, gen, recs, true⟩, (appended ⟨d, gen, recs, cl⟩ b).2) := rfl
end W5
structure Logd (w0 w : World) (X : Nat -> Prop) (p q : Nat) (L : W5.Lg) : Prop where
 inn : ∃ Y lv vs, LogY w0 w X Y p q L.d L.gen (W5.used L.recs) lv vs L.recs L.cl
 fit : W5.used L.recs <= W5.area L.d
 len : ∀ b ∈ L.recs, b.length <= 8192
 gen : L.gen < 4294967296
theorem info_row5 : (Tryz.prog.info? 56).map (fun i => (i.zero, i.size, i.bytes)) = some (some (.slice none 0 0), 1, 24) := by kernel_rfl
section
variable {w0 w : World} {X : Nat -> Prop} {p q : Nat}
theorem append_any {L : W5.Lg} (h : Logd w0 w X p q L) (v : Value) (b : List UInt8) (hb : Bs w v b) (hbX : ∀ k, v.ownBlock = some k -> X k) (hwl : L.d.wait.length <= 1073600000) :
 Calls Tryz.prog 48 #[.pointer (some ⟨q, 0, none⟩), v] w fun e w' => e = .returned (.int .i64 (W5.append L b).2) /\ Logd w0 w' X p q (W5.append L b).1 /\ Keeps X w w' := by
 obtain ⟨ib, hib, hzb0, hzb1, hzb2⟩ := info_parts info_row5
 obtain ⟨⟨Y, lv, vs, hY⟩, hfit, hlen, hgen⟩ := h
 have hok := hY.held.okd
 have hn2 := hok.n2
 have hal := W5.area_le L.d hn2
 have HLEN := qh hlen
 have hlu := W5.len_le_used L.recs
 have HY := qh hY
 have HB := qh hb
 have HBX := qh hbX
 have hbl := hb.length_le
 obtain ⟨a, cap, rfl⟩ := hb.shape
 have hbase : Hid (w0.heap.size <= w.heap.size) := hY.held.ext.size
 obtain ⟨d, gen, recs, cl⟩ := L
 simp only at hfit hgen hal hlu hwl HY HLEN hn2
 have HA := qh (W5.append_eq d gen recs cl b)
 have c0 := hY.at_.c0
 have c1 := hY.at_.c1
 have c2 := hY.at_.c2
 have c3 := hY.at_.c3
 have c4 := hY.at_.c4
 have f4 := hY.at_.fr 4
 simp only at c0 c1 c2 c3 c4
 clear hY hb hbX hok hlen
 have hbi : (b.length : Int) <= 9223372036854775807 := by omega
 go_enter Tryz.func48, Tryz.ntmps48
 cases cl
 ·by_cases h1 : 8192 < b.length
  ·have h1i : (8192 : Int) < (b.length : Int) := by omega
   rw [if_neg (by decide), if_pos h1] at HA
   clear h1
   go_wp2
   go_ret
   rw [HA.out]
   exact ⟨rfl, ⟨⟨Y, lv, vs, HY.out⟩, hfit, HLEN.out, hgen⟩, Keeps.refl _ _⟩
  ·have h1i : decide ((8192 : Int) < (b.length : Int)) = false := decide_eq_false (by omega)
   have h8 : b.length <= 8192 := by omega
   have hroom := room_any HY.out.held c0 (W5.used recs) (by omega) c2
   have hnd := need_17 b.length h8
   have hne : ∀ w, Calls Tryz.prog 46 #[.int .i64 (b.length : Int)] w fun e w' => e = .returned (.int .i64 (W5.need b.length : Int)) /\ w = w' := by
    intro w
    refine (need_any (b.length : Int) w (by omega) (by omega)).mono ?_
    rintro e w1 ⟨rfl, rfl⟩
    rw [W5.need_nat]
    exact ⟨rfl, rfl⟩
   have HNE := qh hne
   clear hne
   rw [if_neg (by decide), if_neg h1] at HA
   clear h1
   generalize hN : W5.need b.length = N at *
   generalize hU : W5.used recs = U at *
   generalize hA : W5.area d = A at *
   have HN := qh hN
   have HU := qh hU
   have HAR := qh hA
   clear hN hU hA
   go_wp2_with fail
   refine (HNE.out _).mono ?_
   rintro e w5 ⟨rfl, rfl⟩
   go_wp2_with fail
   refine hroom.mono ?_
   rintro e w5 ⟨rfl, hx5⟩
   clear hroom
   have HY5 := qh (HY.out.ext hx5)
   have HB5 := qh (HB.out.ext hx5)
   have HX5 := qh hx5
   clear c0 c1 c2 c3 c4 f4 hx5
   have hui : (U : Int) <= 2047 := by omega
   have hai : (A : Int) <= 2047 := by omega
   by_cases h2 : A < U + N
   ·have h2i : (A : Int) - (U : Int) < (N : Int) := by omega
    rw [if_pos h2] at HA
    clear h2
    go_wp2
    go_ret
    rw [HA.out]
    exact ⟨rfl, ⟨⟨Y, lv, vs, by simp only; rw [HU.out]; exact HY5.out⟩, by simp only; rw [HU.out, HAR.out]; omega, HLEN.out, hgen⟩, Keeps.of_ext HX5.out⟩
   ·have h2i : decide ((A : Int) - (U : Int) < (N : Int)) = false := decide_eq_false (by omega)
    rw [if_neg h2] at HA
    have H2 := qh h2
    clear h2
    have c0 := HY5.out.at_.c0
    have c1 := HY5.out.at_.c1
    have c2 := HY5.out.at_.c2
    have c3 := HY5.out.at_.c3
    have hqY := (HY5.out.lf q (.inl rfl)).1
    have hbY := qh (fun k hk => HY5.out.sub k (HBX.out k hk))
    have hgi : (gen : Int) < 4294967296 := by omega
    have hla := fun (w' : World) (hx : Ext w5 w') => lay_any (HY5.out.held.after_ext hx) (Ext.cell hx c0) hqY gen recs.length U _ b (HB5.out.ext hx) hbY.out hgen (by omega) (by omega) h8 (by omega)
    have HLX := qh (show W5.laid ⟨d, gen, recs, false⟩ b = W5.lay d gen recs.length U b from by unfold W5.laid; simp only; rw [HU.out])
    have HAP := qh (W5.appended_eq d gen recs false b)
    rw [HLX.out] at HAP
    have hnl : (W5.lay d gen recs.length U b).1.n = d.n := W5.lay_n _ _ _ _ _
    have hwt := W5.lay_wait d gen recs.length U b
    rw [HN.out] at hwt
    generalize hXL : W5.lay d gen recs.length U b = XL at *
    obtain ⟨D1, E1⟩ := XL
    simp only at hnl hwt HAP hla
    clear hXL HLX
    obtain ⟨lva, lvc, hlv⟩ : ∃ lva lvc, lv = .slice lva recs.length lvc := by
     have h9 := HY5.out.at_.rows.row
     rcases h9.2 with ⟨h9, h10⟩ | ⟨g, cp, cur, h9, _⟩
     ·exact ⟨_, _, by rw [h9, h10]⟩
     ·exact ⟨_, _, h9⟩
    subst hlv
    have hx0 := Ext.of_drew w5
    have hrl : (recs.length : Int) <= 2047 := by omega
    go_wp2_with fail
    go_region_held3 (fun w' => w'.cell? ⟨q, 1, none⟩ = some (.int .u32 (gen : Int)) /\ w'.cell? ⟨q, 3, none⟩ = some (.slice lva recs.length lvc) /\ w'.cell? ⟨q, 2, none⟩ = some (.int .i64 (U : Int))) (first | exact ⟨Ext.cell hx0 c1, Ext.cell hx0 c3, Ext.cell hx0 c2⟩ | exact ⟨Keeps.cell hst6.2 (Ext.cell hx0 c1) hqY, Keeps.cell hst6.2 (Ext.cell hx0 c3) hqY, Keeps.cell hst6.2 (Ext.cell hx0 c2) hqY⟩) (first
     | (go_at_call 78; refine (hla _ hx0).mono ?_; rintro e w6 ⟨rfl, hst6⟩))
    obtain ⟨hY6, hK6⟩ := (HY5.out.ext hx0).disk hst6
    have HY6 := qh hY6
    have HK6 := qh ((Keeps.of_ext (HX5.out.trans hx0)).trans hK6)
    have HB6 := qh (hK6.bs (HB5.out.ext hx0) HBX.out)
    have HBA6 := qh (Nat.le_trans hbase.out (Nat.le_trans HX5.out.size (Nat.le_trans hx0.size hst6.2.size)))
    clear hla hst6 hY6 hK6 hx0 HY5 HB5 c0 c1 c2 c3
    have c0 := HY6.out.at_.c0
    by_cases hz : E1 = 0
    ·subst hz
     rw [if_pos rfl] at HAP
     have hfl := held_flush HY6.out.held
     have hfn : (D.flush D1).n = D1.n := by unfold D.flush D.goes; split <;> (try split) <;> (try split) <;> rfl
     have HFL := qh hfl
     clear hfl
     go_wp2_with fail
     refine HFL.out.mono ?_
     clear HFL
     rintro e w7 ⟨rfl, hst7⟩
     obtain ⟨hY7, hK7⟩ := HY6.out.disk hst7
     have HY7 := qh hY7
     have HK7 := qh (HK6.out.trans hK7)
     have HB7 := qh (hK7.bs HB6.out HBX.out)
     have HBA7 := qh (Nat.le_trans HBA6.out hst7.2.size)
     clear hst7 hY7 hK7 HY6 HK6 HB6 HBA6 c0
     generalize hF : D.flushE D1 = F at *
     clear hF
     generalize D.flush D1 = D2 at *
     have c4 := HY7.out.at_.c4
     have f4 := HY7.out.at_.fr 4
     by_cases hz : F = 0
     ·subst hz
      rw [HAP.out, if_pos rfl] at HA
      have c3 := HY7.out.at_.c3
      have hHeld : w7.drew.cell? ⟨q, 3, none⟩ = some (.slice lva recs.length lvc) := Ext.cell (Ext.of_drew w7) c3
      clear c4 f4
      have HLA := qh HY7.out.at_
      have hbase := HBA7
      go_wp2_with fail
      refine wp_region_C (fun w' => w'.cell? ⟨q, 3, none⟩ = some (.slice lva recs.length lvc)) 8 (by kernel_rfl) ?_
      (refine aP (i := 0) (oi := ⟨some 51, _, _, _, _, _⟩) (v := ?_) rfl ?_ hHeld ?_; rotate_left; (focus (intro w; go_simp; first | done | with_reducible rfl)); try simp only [Act.put, zB, zC, zD])
      (refine aC [2, 3, 4, 8] (i := 1) (oi := ⟨some 52, _, _, _, _, _⟩) (v := ?_) rfl ?_ hHeld ?_; rotate_left; (focus (intro w hSw; (skip); go_simp; first | done | with_reducible rfl)); try simp only [Act.put, zB, zC, zD])
      (refine aC [3, 4, 8] (i := 2) (oi := ⟨some 53, _, _, _, _, _⟩) (v := ?_) rfl ?_ hHeld ?_; rotate_left; (focus (intro w hSw; (skip); go_simp; first | done | with_reducible rfl)); try simp only [Act.put, zB, zC, zD])
      (refine aC [4, 8] (i := 3) (oi := ⟨some 54, _, _, _, _, _⟩) (v := ?_) rfl ?_ hHeld ?_; rotate_left; (focus (intro w hSw; (skip); go_simp; first | done | with_reducible rfl)); try simp only [Act.put, zB, zC, zD])
      (refine aC [8] (i := 4) (oi := ⟨some 55, _, _, _, _, _⟩) (v := ?_) rfl ?_ hHeld ?_; rotate_left; (focus (intro w hSw; (skip); go_simp; first | done | with_reducible rfl)); try simp only [Act.put, zB, zC, zD])
      (refine aC [6, 8] (i := 5) (oi := ⟨some 56, _, _, _, _, _⟩) (v := ?_) rfl ?_ hHeld ?_; rotate_left; (focus (intro w hSw; (skip); go_simp; first | done | with_reducible rfl)); try simp only [Act.put, zB, zC, zD])
      refine wpAnyC_one (i := 6) (oi := ⟨some 57, _, _, _, _, _⟩) rfl (by kernel_rfl) (by decide) (fun K hK => ?_)
      rw [if_pos (by rfl)]
      go_simp
      go_at_call 56
      refine (clone_any _ b _ (HB7.out.ext (Ext.of_drew w7)) (by omega)).mono ?_
      rintro e w6 ⟨u6, rfl, hown6, hx6⟩
      have hx6' := (Ext.of_drew w7).trans hx6
      refine hK.out _ _ (Ext.cell hx6' HLA.out.c3) ?_
      clear hK K
      try simp only [Act.put, zB, zC, zD]
      refine wpAnyC_one (i := 7) (oi := ⟨some 58, _, _, _, _, _⟩) rfl (by kernel_rfl) (by decide) (fun K hK => ?_)
      rw [if_pos (by rfl)]
      refine wp_buildSlice rfl (by simp [Act.eval]) (run_buildSlice_one w6 90 56 ib (.slice none 0 0) u6 Tryz.underlying90 hib hzb0 (by rw [hzb1]; rfl) (by rw [hzb1]; decide) (by rw [hzb1]; decide) (by obtain ⟨ua, uc, rfl⟩ := (Bs.of_own hown6).shape; rw [hzb1]; rfl)) ?_
      have hx7 := Ext.of_alloc w6 (.cells u6.cells 56)
      refine hK.out _ _ (Ext.cell hx7 (Ext.cell hx6' HLA.out.c3)) ?_
      clear hK K
      try simp only [Act.put, zB, zC, zD]
      have hnews : ∀ j u, [u6][j]? = some u -> (w6.alloc (.cells u6.cells 56)).cell? ((⟨w6.heap.size, 0, none⟩ : Addr).add j) = some u := by
       intro j u hj
       obtain ⟨ua, uc, rfl⟩ := (Bs.of_own hown6).shape
       rw [Addr.add_lit, World.cell?_alloc_at _ _ _ _ rfl]
       simpa [Value.cells] using hj
      have hone : ∀ u ∈ [u6], u.oneCell' = true := by
       intro u hu
       obtain rfl := List.mem_singleton.1 hu
       obtain ⟨ua, uc, rfl⟩ := (Bs.of_own hown6).shape
       rfl
      have hrow7 := (HLA.out.ext (hx6'.trans hx7)).rows.row
      refine wpAnyC_c (oi := ⟨some 59, _, _, _, _, _⟩) rfl (by kernel_rfl) (fun K hK => ?_)
      rw [if_pos (by rfl)]
      refine wp_append_lies _ _ _ 90 rfl w0.heap.size 56 ib (.slice none 0 0) 1 24 Tryz.underlying90 hib hzb0 hzb1 hzb2 (by rfl) (by decide) (Value.slice lva recs.length lvc) recs.length vs rfl hrow7 ⟨w6.heap.size, 0, none⟩ 1 1 [u6] rfl rfl hnews hone (by decide) (by unfold maxLen; omega) (by omega) (Nat.le_trans hbase.out (hx6'.trans hx7).size) (w6.heap.size + 1) (by simp) ?_
      intro g7 cap7 w8 hown8 hgrow8 hat8 hlt8
      have hnv8 : ∀ k, (Value.slice (some ⟨g7, 0, none⟩) (recs.length + 1) cap7).ownBlock = some k -> (Value.slice lva recs.length lvc).ownBlock = some k ∨ w7.heap.size <= k := by
       intro k hk
       have e : g7 = k := by simpa [Value.ownBlock] using hk
       subst e
       rcases hat8 with h | h
       ·exact .inl h
       ·exact .inr (by rw [h]; exact Nat.le_trans hx6'.size (Nat.le_succ _))
      obtain ⟨d3, d3f, hL8, hM8, hF8⟩ := HLA.out.push (hx6'.trans hx7) (hbase.out) (Nat.le_refl _) (hx7.keptOwn hown6) hown8 hgrow8 hnv8
      refine hK.out _ _ ?_
      clear hK K
      try simp only [Act.put, zB, zC, zD]
      (refine aT (i := 9) (oi := ⟨some 60, _, _, _, _, _⟩) (v := ?_) rfl ?_ ?_; rotate_left; (focus (intro w; go_simp; first | done | with_reducible rfl)); try simp only [Act.put, zB, zC, zD])
      (refine aT (i := 10) (oi := ⟨some 61, _, _, _, _, _⟩) (v := ?_) rfl ?_ ?_; rotate_left; (focus (intro w; go_simp; first | done | with_reducible rfl)); try simp only [Act.put, zB, zC, zD])
      refine wpAny_one (i := 11) (oi := ⟨none, _, _, _, _, _⟩) rfl (by kernel_rfl) (fun K hK => ?_)
      rw [if_pos (by rfl)]
      go_simp
      refine hK.out _ _ ?_
      clear hK K
      try simp only [Act.put, zB, zC, zD]
      refine wpAny_done (by kernel_rfl) ?_ _
      clear d3 d3f hown8 hgrow8 hat8 hlt8 hnews hone hrow7 hx6' hx7 hx6 hown6 c3
      obtain ⟨hY8, hK8⟩ := HY7.out.re hM8 hL8 hF8
      have HY8 := qh hY8
      have HK8 := qh (HK7.out.trans hK8)
      clear hY8 hK8 hM8 hL8 hF8 HY7 HK7 HB7 HBA7 hbase HLA hHeld
      generalize w8.setCell ⟨q, 3, none⟩ (.slice (some ⟨g7, 0, none⟩) (recs.length + 1) cap7) = wB at *
      generalize vs ++ [u6] = vs2 at *
      have c2 := HY8.out.at_.c2
      have f2 := HY8.out.at_.fr 2
      have hHeld : wB.drew.cell? ⟨q, 2, none⟩ = some (.int .i64 (U : Int)) /\ wB.drew.frozen? ⟨q, 2, none⟩ = false := ⟨Ext.cell (Ext.of_drew wB) c2, (HY8.out.ext (Ext.of_drew wB)).at_.fr 2⟩
      have HYD := qh (HY8.out.ext (Ext.of_drew wB))
      have HKD := qh (HK8.out.trans (Keeps.of_ext (Ext.of_drew wB)))
      have hNi : (N : Int) <= 17 := by omega
      clear c2 f2
      go_wp2_with fail
      refine wp_region_C (fun w' => w'.cell? ⟨q, 2, none⟩ = some (.int .i64 (U : Int)) /\ w'.frozen? ⟨q, 2, none⟩ = false) 10 (by kernel_rfl) ?_
      generalize wB.drew = wz at *
      (refine aC [10] (i := 0) (oi := ⟨some 62, _, _, _, _, _⟩) (v := ?_) rfl ?_ hHeld ?_; rotate_left; (focus (intro w hSw; (skip); go_simp; first | done | with_reducible rfl)); try simp only [Act.put, zB, zC, zD])
      (refine aC [10] (i := 1) (oi := ⟨some 63, _, _, _, _, _⟩) (v := ?_) rfl ?_ hHeld ?_; rotate_left; (focus (intro w hSw; (skip); go_simp; first | done | with_reducible rfl)); try simp only [Act.put, zB, zC, zD])
      (refine aC [10] (i := 2) (oi := ⟨some 64, _, _, _, _, _⟩) (v := ?_) rfl ?_ hHeld ?_; rotate_left; (focus (intro w hSw; (skip); go_simp; first | done | with_reducible rfl)); try simp only [Act.put, zB, zC, zD])
      (refine aC [10] (i := 3) (oi := ⟨some 65, _, _, _, _, _⟩) (v := ?_) rfl ?_ hHeld ?_; rotate_left; (focus (intro w hSw; (obtain ⟨hSw1, hSw2⟩ := hSw); go_simp; first | done | with_reducible rfl)); try simp only [Act.put, zB, zC, zD])
      (refine aC [10] (i := 4) (oi := ⟨some 66, _, _, _, _, _⟩) (v := ?_) rfl ?_ hHeld ?_; rotate_left; (focus (intro w hSw; (skip); go_simp; first | done | with_reducible rfl)); try simp only [Act.put, zB, zC, zD])
      (refine aC [10] (i := 5) (oi := ⟨some 67, _, _, _, _, _⟩) (v := ?_) rfl ?_ hHeld ?_; rotate_left; (focus (intro w hSw; (skip); go_simp; first | done | with_reducible rfl)); try simp only [Act.put, zB, zC, zD])
      refine wpAnyC_one (i := 6) (oi := ⟨some 68, _, _, _, _, _⟩) rfl (by kernel_rfl) (by decide) (fun K hK => ?_)
      rw [if_pos (by rfl)]
      go_simp
      go_at_call 46
      refine (HNE.out _).mono ?_
      rintro e w9 ⟨rfl, rfl⟩
      refine hK.out _ _ hHeld ?_
      clear hK K
      try simp only [Act.put, zB, zC, zD]
      (refine aC [10] (i := 7) (oi := ⟨some 69, _, _, _, _, _⟩) (v := ?_) rfl ?_ hHeld ?_; rotate_left; (focus (intro w hSw; (skip); go_simp; first | done | with_reducible rfl)); try simp only [Act.put, zB, zC, zD])
      (refine aC [9, 10] (i := 8) (oi := ⟨some 70, _, _, _, _, _⟩) (v := ?_) rfl ?_ hHeld ?_; rotate_left; (focus (intro w hSw; (skip); go_simp; first | done | with_reducible rfl)); try simp only [Act.put, zB, zC, zD])
      (refine aC [10] (i := 9) (oi := ⟨some 71, _, _, _, _, _⟩) (v := ?_) rfl ?_ hHeld ?_; rotate_left; (focus (intro w hSw; (skip); go_simp; first | done | with_reducible rfl)); try simp only [Act.put, zB, zC, zD])
      obtain ⟨z1, z2⟩ := hHeld
      refine wpAnyC_c (oi := ⟨none, _, _, _, _, _⟩) rfl (by kernel_rfl) (fun K hK => ?_)
      rw [if_pos (by rfl)]
      go_simp
      refine hK.out _ _ ?_
      clear hK K
      try simp only [Act.put, zB, zC, zD]
      refine wpAny_done (by kernel_rfl) ?_ _
      obtain ⟨hY9, hK9⟩ := HYD.out.re (LF.set q _ vs2 wz 2 (.int .i64 ((U + N : Nat) : Int))) (HYD.out.at_.set2 (U + N)) (fun _ h => .inl h)
      have HY9 := qh hY9
      have HK9 := qh (HKD.out.trans hK9)
      clear hY9 hK9 HYD HKD z1 z2
      go_wp2
      go_ret
      rw [HA.out]
      have hu2 : W5.used (recs ++ [b]) = U + N := by
       unfold W5.used at *
       rw [List.map_append, List.sum_append]
       have := HU.out
       have := HN.out
       simp
       omega
      have hwr : IntKind.i64.wrap ((U : Int) + (N : Int)) = ((U + N : Nat) : Int) := by rw [IntKind.wrap_i64]; omega
      rw [hwr]
      refine ⟨rfl, ⟨⟨_, _, vs2, by simp only; rw [hu2]; exact HY9.out⟩, ?_, ?_, hgen⟩, HK9.out⟩
      ·simp only
       rw [hu2]
       have e : W5.area D2 = W5.area d := by unfold W5.area; rw [hfn, hnl]
       rw [e, HAR.out]; have := H2.out; omega
      ·intro x hx
       rcases List.mem_append.1 hx with hx | hx
       ·exact HLEN.out x hx
       ·obtain rfl := List.mem_singleton.1 hx
        exact h8
     ·have hz2 : (F != 0) = true := by rw [bne_iff_ne]; exact hz
      rw [HAP.out, if_neg hz] at HA
      clear hz
      obtain ⟨hY8, hK8⟩ := HY7.out.re (LF.set q (.slice lva recs.length lvc) vs w7 4 (.bool true)) (HY7.out.at_.set4 true) (fun _ h => .inl h)
      have HY8 := qh hY8
      have HK8 := qh (HK7.out.trans hK8)
      clear hY8 hK8 HY7 HK7
      go_wp2
      go_ret
      rw [HA.out]
      refine ⟨rfl, ⟨⟨_, _, vs, by simp only; rw [HU.out]; exact HY8.out⟩, ?_, HLEN.out, hgen⟩, HK8.out⟩
      simp only
      have e : W5.area D2 = W5.area d := by unfold W5.area; rw [hfn, hnl]
      rw [e, HAR.out, HU.out]; omega
    ·have hz2 : (E1 == 0) = false := by rw [beq_eq_false_iff_ne]; exact hz
     have hz3 : (E1 != 0) = true := by rw [bne_iff_ne]; exact hz
     have c4 := HY6.out.at_.c4
     have f4 := HY6.out.at_.fr 4
     rw [if_neg hz] at HAP
     rw [HAP.out, if_neg hz] at HA
     clear hz
     obtain ⟨hY8, hK8⟩ := HY6.out.re (LF.set q (.slice lva recs.length lvc) vs w6 4 (.bool true)) (HY6.out.at_.set4 true) (fun _ h => .inl h)
     have HY8 := qh hY8
     have HK8 := qh (HK6.out.trans hK8)
     clear hY8 hK8 HY6 HK6
     go_wp2
     go_ret
     rw [HA.out]
     refine ⟨rfl, ⟨⟨_, _, vs, by simp only; rw [HU.out]; exact HY8.out⟩, ?_, HLEN.out, hgen⟩, HK8.out⟩
     simp only
     have e : W5.area D1 = W5.area d := by unfold W5.area; rw [hnl]
     rw [e, HAR.out, HU.out]; omega
 ·rw [if_pos rfl] at HA
  go_wp2
  go_ret
  rw [HA.out]
  exact ⟨rfl, ⟨⟨Y, lv, vs, HY.out⟩, hfit, HLEN.out, hgen⟩, Keeps.refl _ _⟩
end
end Go.Proofs.YtnjfioikpajhlaaGreat
