import Derived.Test.YtnjfioikpajhlaaGreatMSt2
set_option maxRecDepth 100000
set_option maxHeartbeats 64000000
/- The store's state behind a batch. (Printed by tools/mksth.py.) -/
namespace Go.Proofs.YtnjfioikpajhlaaGreat
open Go.RowKit Go.Shelf
theorem IdxIn.set {w : World} {Y : Nat -> Prop} {v : Value} {x : S6.Idx} (h : IdxIn w Y v x) {q : Nat} (hq : ¬ Y q) (j : Nat) (u : Value) : IdxIn (w.setCell ⟨q, j, none⟩ u) Y v x :=
 h.keeps (Mod.setCell w ⟨q, j, none⟩ u hq)
theorem new3 {X : Nat -> Prop} {W w v : World} (h1 : W.heap.size <= w.heap.size) (h2 : w.heap.size <= v.heap.size) : ∀ k, New (New X W w) w v k -> New X W v k := fun k hk => by
 rcases hk with (hk | hk) | hk
 ·exact .inl hk
 ·exact .inr ⟨hk.1, by omega⟩
 ·exact .inr ⟨by omega, hk.2⟩
theorem there_blk {w : World} {b : Nat} {cs : List Value} {e : TypeId} (h : w.heap[b]? = some (.cells cs.toArray e (0, 0))) (o n : Nat) (hl : o + n <= cs.length) : w.there b o n := fun j hj => by
 refine ⟨?_, blk_free h _⟩
 rw [blk_cell h, List.getElem?_eq_getElem (by omega)]; rfl
theorem info_pair : (Tryz.prog.info? 129).map (·.size) = some 3 := by kernel_rfl
theorem idx_has {w : World} {Y : Nat -> Prop} {xv : Value} {x : S6.Idx} {key : List UInt8} (h : IdxIn w Y xv x) (ho : S6.IOk x) (hhas : (S6.find x key).2.2 = true) : ∃ (pn an : Nat) (p0 : S6.Pr) (xb xo xc m b3 o3 pc : Nat) (u3 : Value),
 S6.find x key = (pn, an, true) /\ S6.look x.flatten key = some p0 /\ p0.key = key /\ xv = .slice (some ⟨xb, xo, none⟩) x.length xc /\ pn < x.length /\ an < m /\ w.cell? ⟨xb, xo + pn, none⟩ = some (.slice (some ⟨b3, o3, none⟩) m pc) /\
 w.cell? ⟨b3, o3 + an * 3, none⟩ = some (strV p0.key) /\ w.cell? ⟨b3, o3 + an * 3 + 1, none⟩ = some u3 /\ w.cell? ⟨b3, o3 + an * 3 + 2, none⟩ = some (.int .u64 (p0.ver : Int)) /\ Bs w u3 p0.val /\ ∀ k, u3.ownBlock = some k -> Y k := by
 obtain ⟨hp5, hh5, he5, hfd, hlook, hkey⟩ := (S6.look_find ho key).1 hhas
 obtain ⟨_, xa, xc, rfl, hxc, hcell⟩ := h.shape
 obtain ⟨b2, off2, u2, rfl, -, g0, hpg⟩ := hcell _ hp5
 rw [<- he5] at hpg
 obtain ⟨_, pa, pc, rfl, hpc, hq⟩ := hpg.shape
 obtain ⟨b3, off3, u3, rfl, -, g1, g2, g3, hbs3, hb3⟩ := hq _ hh5
 exact ⟨_, _, _, b2, off2, xc, _, b3, off3, pc, u3, hfd, hlook, hkey, rfl, hp5, hh5, g0, g1, g2, g3, hbs3, hb3⟩
structure AL (W2 wr : World) (Z : Nat -> Prop) (q3 m number : Nat) (l : List S6.Pr) (ws : List S6.Wr) (k : Nat) (x : S6.Idx) (xv : Value) (n nd : Nat) : Prop where
 mod : Mod (fun z => z = q3) W2 wr
 nn : n = x.flatten.length
 dd : nd = S6.needsL x.flatten
 blk : wr.heap[q3]? = some (.cells [xv, .int .i64 (n : Int), .int .u64 (m : Int), .int .i64 (nd : Int)].toArray 87 (0, 0))
 idx : IdxIn wr (New Z W2 wr) xv x
 ok : S6.IOk x
 fl : x.flatten = S6.apl l number (ws.take k)
theorem IOk.len {x : S6.Idx} (h : S6.IOk x) : x.length <= x.flatten.length /\ ∀ p ∈ x, p.length <= x.flatten.length := by
 have hne := h.ne
 clear h
 induction x with
 | nil => exact ⟨Nat.le_refl _, fun p hp => by cases hp⟩
 | cons a x ih =>
  obtain ⟨h1, h2⟩ := ih (fun p hp => hne p (List.mem_cons_of_mem _ hp))
  have h3 : 0 < a.length := List.length_pos_iff.2 (hne a List.mem_cons_self)
  rw [List.flatten_cons, List.length_append, List.length_cons]
  refine ⟨by omega, fun p hp => ?_⟩
  rcases List.mem_cons.1 hp with rfl | hp
  ·omega
  ·have := h2 p hp; omega
theorem apply_any (w : World) (X Z : Nat -> Prop) (hXw : ∀ k, X k -> k < w.heap.size) (hZw : ∀ k, Z k -> k < w.heap.size) (xv v : Value) (x0 : S6.Idx) (m number : Nat) (ws : List S6.Wr) (hi : IdxIn w Z xv x0) (ho : S6.IOk x0) (hp : ∀ p ∈ x0.flatten, S6.POk S6.lastN p) (_hm : m <= S6.lastN) (hn : number <= S6.lastN)
 (hw : WrsIn w X v ws) (hok : ∀ x ∈ ws, S6.WOk x) (hl : x0.flatten.length + ws.length <= 900000) (n0 nd0 : Nat) (hn0 : n0 = x0.flatten.length) (hd0 : nd0 = S6.needsL x0.flatten) :
 Calls Tryz.prog 29 #[.agg #[xv, .int .i64 (n0 : Int), .int .u64 (m : Int), .int .i64 (nd0 : Int)], .int .u64 (number : Int), v] w fun e w' =>
  ∃ (xv' : Value) (x : S6.Idx) (n' nd' : Nat), e = .returned (.agg #[xv', .int .i64 (n' : Int), .int .u64 ((max m number : Nat) : Int), .int .i64 (nd' : Int)]) /\ n' = x.flatten.length /\ nd' = S6.needsL x.flatten /\ IdxIn w' (New Z w w') xv' x /\ S6.IOk x /\ x.flatten = S6.apl x0.flatten number ws /\ Ext w w' := by
 obtain ⟨_, xa, xc, rfl, _⟩ := hi.shape
 obtain ⟨_, va, vc, rfl, _⟩ := hw.shape
 have hwl : (ws.length : Int) <= 900000 := by omega
 have HW := qh hw
 have HP := qh hp
 have HOK := qh hok
 obtain ⟨q3, hq3⟩ : ∃ q3, q3 = w.heap.size := ⟨_, rfl⟩
 obtain ⟨W2, hW2⟩ : ∃ W2, W2 = (w.alloc (.cells #[.slice xa x0.length xc, .int .i64 (n0 : Int), .int .u64 (m : Int), .int .i64 (nd0 : Int)] 87)).alloc (.cells #[.slice none 0 0, .int .i64 0, .int .u64 0, .int .i64 0] 87) := ⟨_, rfl⟩
 have hxW : Ext w W2 := by rw [hW2]; exact (Ext.of_alloc _ _).trans (Ext.of_alloc _ _)
 have hsW : W2.heap.size = q3 + 2 := by rw [hW2, hq3]; simp
 have hb3 : W2.heap[q3]? = some (.cells [.slice xa x0.length xc, .int .i64 (n0 : Int), .int .u64 (m : Int), .int .i64 (nd0 : Int)].toArray 87 (0, 0)) := by
  rw [hW2, hq3]
  exact (Below.block (B := _) (Ext.of_alloc _ _) _ (by simp)).trans (heap_alloc_new w _)
 have hb4 : W2.heap[q3 + 1]? = some (.cells [.slice none 0 0, .int .i64 0, .int .u64 0, .int .i64 0].toArray 87 (0, 0)) := by
  have := heap_alloc_new (w.alloc (.cells #[.slice xa x0.length xc, .int .i64 (n0 : Int), .int .u64 (m : Int), .int .i64 (nd0 : Int)] 87)) (.cells #[.slice none 0 0, .int .i64 0, .int .u64 0, .int .i64 0] 87)
  rw [World.size_alloc, <- hq3] at this
  rw [hW2]; exact this
 have hAL : AL W2 W2 Z q3 m number x0.flatten ws 0 x0 (.slice xa x0.length xc) n0 nd0 := ⟨Mod.refl _ _, hn0, hd0, hb3, (hi.ext hxW).mono (fun k hk => .inl hk), ho, rfl⟩
 have HAL := qh hAL
 have HXW := qh hxW
 have HB4 := qh hb4
 have hXq : ∀ z, X z -> ¬ z = q3 := fun z hz e => by have := hXw z hz; omega
 have hYq : ∀ wz, ¬ New Z W2 wz q3 := fun wz hz => by
  rcases hz with hz | hz
  ·have := hZw _ hz; omega
  ·omega
 have HYQ := qh hYq
 have HN0 := qh hn0
 have HD0 := qh hd0
 clear hAL hb3 hb4 hxW hi hw hok hp ho hn0 hd0
 go_enter Tryz.func29, Tryz.ntmps29
 go_upto_region 1 with fail
 rw [<- hW2, <- hq3]
 have HQ3 := qh hq3
 clear hW2 hq3
 go_wp2_with fail
 go_loopw [15] (fun iv wr => ∃ (k : Nat) (x : S6.Idx) (xv : Value) (n nd : Nat), k <= ws.length /\ iv = .int .i64 (k : Int) /\ Hid (AL W2 wr Z q3 m number x0.flatten ws k x xv n nd)) (fun iv _ => ws.length - (intOf iv).toNat)
 case atStart => exact ⟨0, x0, _, n0, nd0, Nat.zero_le _, rfl, HAL⟩
 case round =>
  obtain ⟨k, x, xv, n, nd, hk, rfl, hA⟩ := hrel
  clear HAL
  have hflen : x.flatten.length <= x0.flatten.length + k := by
   rw [hA.out.fl]
   have := S6.apl_len number (ws.take k) x0.flatten
   rw [List.length_take] at this; omega
  obtain ⟨hil, hil2⟩ := IOk.len hA.out.ok
  by_cases hlt : k < ws.length
  ·have hlti : (k : Int) < (ws.length : Int) := by omega
   have hxr : Ext w wr := Mod.ext HXW.out hA.out.mod (fun z hz => by have := HQ3.out; omega)
   have hWr := HW.out.ext hxr
   obtain ⟨_, a9, c9, hv9, hc9, hcell⟩ := hWr.shape
   obtain ⟨rfl, _, rfl⟩ := Value.slice.inj hv9
   obtain ⟨b, off, u, rfl, hXb, c0, c1, c2, c3, hbu, huX⟩ := hcell k hlt
   have hwok := HOK.out _ (List.getElem_mem hlt)
   have HFL := qh (show S6.apl x0.flatten number (ws.take (k + 1)) = S6.stepW number x.flatten ws[k] by
    rw [List.take_succ_eq_append_getElem hlt, S6.apl_snoc, hA.out.fl])
   have hsz : ∀ p ∈ x.flatten, S6.POk S6.lastN p := by
    rw [hA.out.fl]
    exact S6.apl_pok HP.out (fun y hy => HOK.out y (List.mem_of_mem_take hy)) hn
   have HSZ := qh hsz
   have hneed : S6.needsL x.flatten <= 1 + x.flatten.length * 9 := S6.needsL_le hsz (Nat.le_refl _)
   have HNN := qh hA.out.nn
   have HND := qh hA.out.dd
   have hn9 : n <= 900000 := by rw [HNN.out]; omega
   have hnd9 : nd <= 9000000 := by rw [HND.out]; omega
   clear hsz hcell hv9 hWr
   unfold S6.stepW at HFL
   obtain ⟨key, val, dr, ver, hwe⟩ : ∃ key val dr ver, ws[k] = (⟨key, val, dr, ver⟩ : S6.Wr) := ⟨_, _, _, _, rfl⟩
   rw [hwe] at c0 c2 c3 hbu hwok HFL
   simp only at c0 c2 c3 hbu HFL
   clear hwe
   unfold strV at c0
   obtain ⟨ua, uc, rfl⟩ := hbu.shape
   have hrx := Ext.of_alloc wr (.cells #[.string ⟨key.toArray⟩, .slice ua val.length uc, .bool dr, .int .u64 (ver : Int)] 58)
   have d0 : (wr.alloc (.cells #[.string ⟨key.toArray⟩, .slice ua val.length uc, .bool dr, .int .u64 (ver : Int)] 58)).cell? ⟨wr.heap.size, 0, none⟩ = some (.string ⟨key.toArray⟩) := by rw [World.cell?_alloc_at _ _ _ _ rfl]; rfl
   have d1 : (wr.alloc (.cells #[.string ⟨key.toArray⟩, .slice ua val.length uc, .bool dr, .int .u64 (ver : Int)] 58)).cell? ⟨wr.heap.size, 1, none⟩ = some (.slice ua val.length uc) := by rw [World.cell?_alloc_at _ _ _ _ rfl]; rfl
   have d2 : (wr.alloc (.cells #[.string ⟨key.toArray⟩, .slice ua val.length uc, .bool dr, .int .u64 (ver : Int)] 58)).cell? ⟨wr.heap.size, 2, none⟩ = some (.bool dr) := by rw [World.cell?_alloc_at _ _ _ _ rfl]; rfl
   go_upto_region 4 with fail
   obtain ⟨W3, hW3⟩ : ∃ W3, W3 = wr.alloc (.cells #[.string ⟨key.toArray⟩, .slice ua val.length uc, .bool dr, .int .u64 (ver : Int)] 58) := ⟨_, rfl⟩
   rw [<- hW3] at hrx d0 d1 d2 ⊢
   have hpq : q3 < wr.heap.size := blk_lt hA.out.blk
   have hs3 : W3.heap.size = wr.heap.size + 1 := by rw [hW3]; simp
   clear hW3
   obtain ⟨pp, hpp⟩ : ∃ pp, pp = wr.heap.size := ⟨_, rfl⟩
   rw [<- hpp] at d0 d1 d2 hpq hs3 ⊢
   have HPP := qh hpp
   clear hpp
   have HBU := qh (hbu.ext hrx)
   have hk3 := Below.block (B := wr.heap.size) hrx q3 (by have := HPP.out; omega)
   have hblk := hk3.trans hA.out.blk
   have hI := hA.out.idx.ext hrx
   have HM3 := qh (show Mod (fun z => z = q3) W2 W3 from Mod.trans hA.out.mod (Mod.of_ext (F := fun z => z = q3) hrx) (fun _ _ h => h))
   have HUX := qh huX
   have HOX := qh hA.out.ok
   have HBK := qh hblk
   have e0 : W3.cell? ⟨q3, 0, none⟩ = some xv := (blk_cell hblk 0).trans rfl
   have hI2 := hI.mono (show ∀ z, New Z W2 wr z -> New Z W2 W3 z from fun z hz => New.mono hrx.size z hz)
   have HI := qh hI2
   have HF := qh (find_any W3 _ xv x key hI2 HOX.out (by omega) (fun p hp => by have := hil2 p hp; omega))
   obtain ⟨_, xva, xvc, rfl, _⟩ := hI2.shape
   clear hk3 hblk hI hI2 hA hxr hrx c0 c1 c2 c3 hbu huX
   unfold findV strV at HF
   go_wp2_with fail
   refine HF.out.mono ?_
   clear HF
   rintro e w4 ⟨rfl, hx4⟩
   have HI4 := qh ((HI.out.ext hx4).mono (show ∀ z, New Z W2 W3 z -> New Z W2 w4 z from fun z hz => New.mono hx4.size z hz))
   have HBU4 := qh (HBU.out.ext hx4)
   have HM4 := qh (show Mod (fun z => z = q3) W2 w4 from Mod.trans HM3.out (Mod.of_ext (F := fun z => z = q3) hx4) (fun _ _ h => h))
   have HBK4 := qh ((Below.block (B := W3.heap.size) hx4 q3 (by omega)).trans HBK.out)
   have hs4 := hx4.size
   have d0' := hx4.cell d0
   have d1' := hx4.cell d1
   have d2' := hx4.cell d2
   have e0' := hx4.cell e0
   clear d0 d1 d2 e0 hx4 HI HBU HM3 HBK
   dsimp only
   by_cases hhas : (S6.find x key).2.2 = true
   ·obtain ⟨pn, an, p0, xb, xo, xc4, pm, b3, o3, pc, u3, hfd, hlook, hkey, hxv, hpn, han, g0, g1, g2, g3, hbs3, -⟩ := idx_has HI4.out HOX.out hhas
    have hcnt := S6.del_some HOX.out.srt hlook
    have hp0 := HSZ.out _ (S6.look_some hlook).1
    rw [hfd]
    obtain ⟨rfl, _, rfl⟩ := Value.slice.inj hxv
    obtain ⟨u3a, u3c, rfl⟩ := hbs3.shape
    have hpi : (pn : Int) < (x.length : Int) := by omega
    have hai : (an : Int) < (pm : Int) := by omega
    have h0x := (blk_cell HBK4.out 0).trans rfl
    have h1x : w4.cell? ⟨q3, 1, none⟩ = some (.int .i64 (n : Int)) := (blk_cell HBK4.out 1).trans rfl
    have h3x : w4.cell? ⟨q3, 3, none⟩ = some (.int .i64 (nd : Int)) := (blk_cell HBK4.out 3).trans rfl
    have hnp := S6.needP_le hp0 (Nat.le_refl _)
    unfold strV at g1
    obtain ⟨np, hnpe⟩ : ∃ np, np = S6.needP p0 := ⟨_, rfl⟩
    rw [<- hnpe] at hnp hcnt
    have HNP := qh hnpe
    have HP0 := qh hp0
    have HCN := qh hcnt
    obtain ⟨D1, hD1⟩ : ∃ D1, D1 = nd - np := ⟨_, rfl⟩
    obtain ⟨N1, hN1⟩ : ∃ N1, N1 = n - 1 := ⟨_, rfl⟩
    have hx5n : (nd : Int) - (np : Int) = (D1 : Int) := by have := hcnt.2; have := HND.out; omega
    have hx5m : (n : Int) - 1 = (N1 : Int) := by have := hcnt.1; have := HNN.out; omega
    have hwr : IntKind.i64.wrap (D1 : Int) = (D1 : Int) := by rw [IntKind.wrap_i64]; omega
    have hwr2 : IntKind.i64.wrap (N1 : Int) = (N1 : Int) := by rw [IntKind.wrap_i64]; omega
    have H1 := qh (show N1 = (S6.del x.flatten key).length by have := hcnt.1; have := HNN.out; omega)
    have H2 := qh (show D1 = S6.needsL (S6.del x.flatten key) by have := hcnt.2; have := HND.out; omega)
    have hN9 : N1 <= 900000 := by omega
    have hD9 : D1 <= 9000000 := by omega
    clear hD1 hN1
    have h4q : q3 < w4.heap.size := blk_lt HBK4.out
    clear hnpe hp0 hlook hkey hcnt
    go_upto_region 6 with fail
    have hHX := Ext.of_drew w4
    have hHeld := hHX
    refine wp_region_C (fun w' => Ext w4 w') 13 (by kernel_rfl) ?_
    (refine aC [13] (i := 0) (oi := ⟨some 29, _, _, _, _, _⟩) (v := ?_) rfl ?_ hHeld ?_; rotate_left; (focus (intro w hSw; (skip); go_simp; first | done | with_reducible rfl)); try simp only [Act.put, zB, zC, zD])
    (refine aC [13] (i := 1) (oi := ⟨some 30, _, _, _, _, _⟩) (v := ?_) rfl ?_ hHeld ?_; rotate_left; (focus (intro w hSw; ((have q := hSw.cell h3x)); go_simp; first | done | with_reducible rfl)); try simp only [Act.put, zB, zC, zD])
    (refine aC [13] (i := 2) (oi := ⟨some 31, _, _, _, _, _⟩) (v := ?_) rfl ?_ hHeld ?_; rotate_left; (focus (intro w hSw; (skip); go_simp; first | done | with_reducible rfl)); try simp only [Act.put, zB, zC, zD])
    (refine aC [13] (i := 3) (oi := ⟨some 32, _, _, _, _, _⟩) (v := ?_) rfl ?_ hHeld ?_; rotate_left; (focus (intro w hSw; ((have q := hSw.cell h0x)); go_simp; first | done | with_reducible rfl)); try simp only [Act.put, zB, zC, zD])
    (refine aC [13] (i := 4) (oi := ⟨some 33, _, _, _, _, _⟩) (v := ?_) rfl ?_ hHeld ?_; rotate_left; (focus (intro w hSw; (skip); go_simp; first | done | with_reducible rfl)); try simp only [Act.put, zB, zC, zD])
    (refine aC [13] (i := 5) (oi := ⟨some 34, _, _, _, _, _⟩) (v := ?_) rfl ?_ hHeld ?_; rotate_left; (focus (intro w hSw; (skip); go_simp; first | done | with_reducible rfl)); try simp only [Act.put, zB, zC, zD])
    (refine aC [13] (i := 6) (oi := ⟨some 35, _, _, _, _, _⟩) (v := ?_) rfl ?_ hHeld ?_; rotate_left; (focus (intro w hSw; ((have q := hSw.cell g0)); go_simp; first | done | with_reducible rfl)); try simp only [Act.put, zB, zC, zD])
    (refine aC [13] (i := 7) (oi := ⟨some 36, _, _, _, _, _⟩) (v := ?_) rfl ?_ hHeld ?_; rotate_left; (focus (intro w hSw; (skip); go_simp; first | done | with_reducible rfl)); try simp only [Act.put, zB, zC, zD])
    (refine aC [13] (i := 8) (oi := ⟨some 37, _, _, _, _, _⟩) (v := ?_) rfl ?_ hHeld ?_; rotate_left; (focus (intro w hSw; (skip); go_simp; first | done | with_reducible rfl)); try simp only [Act.put, zB, zC, zD])
    (refine aC [13] (i := 9) (oi := ⟨some 38, _, _, _, _, _⟩) (v := ?_) rfl ?_ hHeld ?_; rotate_left; (focus (intro w hSw; (((have q := hSw.cell g1); (have qq := hSw.cell g2); (have qqq := hSw.cell g3))); go_simp; first | done | with_reducible rfl)); try simp only [Act.put, zB, zC, zD])
    refine wpAnyC_one (i := 10) (oi := ⟨some 39, _, _, _, _, _⟩) rfl (by kernel_rfl) (by decide) (fun K hK => ?_)
    rw [if_pos (by rfl)]
    go_simp
    refine (needs_any _ p0 (.slice u3a p0.val.length u3c) (hbs3.ext hHeld) (by have := HP0.out.key; omega) (by have := HP0.out.val; omega) (by have := HP0.out.ver; unfold S6.lastN at this; omega)).mono ?_
    rintro e w5 ⟨rfl, hx5⟩
    rw [<- HNP.out]
    have hHeld2 := hHeld.trans hx5
    clear hHeld
    have hHeld := hHeld2
    clear hHeld2 hx5
    have hb5 := (Below.block (B := w4.heap.size) hHeld q3 h4q).trans HBK4.out
    have s3 : w5.cell? ⟨q3, 3, none⟩ = some (.int .i64 (nd : Int)) := hHeld.cell h3x
    have s3f := blk_free hb5 3
    refine hK.out _ _ hHeld ?_
    clear hK K
    try simp only [Act.put, zB, zC, zD]
    (refine aC [13] (i := 11) (oi := ⟨some 40, _, _, _, _, _⟩) (v := ?_) rfl ?_ hHeld ?_; rotate_left; (focus (intro w hSw; (skip); go_simp; first | done | with_reducible rfl)); try simp only [Act.put, zB, zC, zD])
    (refine aC [13] (i := 12) (oi := ⟨some 41, _, _, _, _, _⟩) (v := ?_) rfl ?_ hHeld ?_; rotate_left; (focus (intro w hSw; (skip); go_simp; first | done | with_reducible rfl)); try simp only [Act.put, zB, zC, zD])
    refine wpAnyC_c (oi := ⟨none, _, _, _, _, _⟩) rfl (by kernel_rfl) (fun K hK => ?_)
    rw [if_pos (by rfl)]
    go_simp
    refine hK.out _ _ ?_
    clear hK K
    try simp only [Act.put, zB, zC, zD]
    refine wpAny_done (by kernel_rfl) ?_ _
    clear hHX
    have hb6 := blk_set hb5 3 (.int .i64 (D1 : Int))
    have s1 : (w5.setCell ⟨q3, 3, none⟩ (.int .i64 (D1 : Int))).cell? ⟨q3, 1, none⟩ = some (.int .i64 (n : Int)) := (blk_cell hb6 1).trans rfl
    have s1f := blk_free hb6 1
    have hb7 : ((w5.setCell ⟨q3, 3, none⟩ (.int .i64 (D1 : Int))).setCell ⟨q3, 1, none⟩ (.int .i64 (N1 : Int))).heap[q3]? = some (.cells [.slice (some ⟨xb, xo, none⟩) x.length xvc, .int .i64 (N1 : Int), .int .u64 (m : Int), .int .i64 (D1 : Int)].toArray 87 (0, 0)) := blk_set hb6 1 _
    have hm7 : Mod (fun z => z = q3) w4 ((w5.setCell ⟨q3, 3, none⟩ (.int .i64 (D1 : Int))).setCell ⟨q3, 1, none⟩ (.int .i64 (N1 : Int))) := Mod.trans (F := fun z => z = q3) (G := fun z => z = q3) (Mod.trans (F := fun z => z = q3) (G := fun z => z = q3) (Mod.of_ext hHeld) (Mod.setCell _ ⟨q3, 3, none⟩ _ rfl) (fun _ _ h => h)) (Mod.setCell _ ⟨q3, 1, none⟩ _ rfl) (fun _ _ h => h)
    go_upto_region 8 with fail
    obtain ⟨w7, hw7⟩ : ∃ w7, w7 = ((w5.setCell ⟨q3, 3, none⟩ (.int .i64 (D1 : Int))).setCell ⟨q3, 1, none⟩ (.int .i64 (N1 : Int))) := ⟨_, rfl⟩
    rw [<- hw7] at hb7 hm7 ⊢
    have HB7 := qh hb7
    have HM7 := qh (Mod.trans HM4.out hm7 (fun _ _ h => h))
    have HI7 := qh ((HI4.out.keeps (hm7.mono (fun z hz hY => HYQ.out w4 (by rw [<- hz]; exact hY)))).mono (show ∀ z, New Z W2 w4 z -> New Z W2 w7 z from fun z hz => New.mono hm7.size z hz))
    have HBU7 := qh (Reads.mod HBU4.out hm7 (fun z hz e => hXq z (HUX.out z hz) e))
    have t0 := hm7.cell d0' (by show ¬ pp = q3; omega)
    have t1 := hm7.cell d1' (by show ¬ pp = q3; omega)
    have t2 := hm7.cell d2' (by show ¬ pp = q3; omega)
    clear hw7 hb7 hm7 hb6 hb5 s1 s1f s3 s3f hHeld hx5n hx5m hwr hwr2 g0 g1 g2 g3 hbs3 h0x h1x h3x HP0 HCN HNP HBK4 HM4 HI4 HBU4 d0' d1' d2' e0' hfd
    have h7q : q3 < w7.heap.size := blk_lt HB7.out
    have s0 : w7.cell? ⟨q3, 0, none⟩ = some _ := (blk_cell HB7.out 0).trans rfl
    have hsW7 : W2.heap.size <= w7.heap.size := HM7.out.size
    cases dr with
    | true =>
     go_wp2_with fail
     refine (xdrop_any w7 _ _ x key HI7.out HOX.out (by omega) (fun p hp => by have := hil2 p hp; omega)).mono ?_
     rintro e w8 ⟨v8, rfl, hI8, hx8⟩
     obtain ⟨_, a8, c8, rfl, _⟩ := hI8.shape
     have hb8 := (Below.block (B := w7.heap.size) hx8 q3 h7q).trans HB7.out
     have s8 : w8.cell? ⟨q3, 0, none⟩ = some _ := (blk_cell hb8 0).trans rfl
     have s8f := blk_free hb8 0
     have HI8 := qh hI8
     have HX8 := qh hx8
     have HB8 := qh hb8
     clear hI8 hx8 hb8 s0
     go_wp2_with fail
     refine ⟨⟨k + 1, S6.drp x key, .slice a8 (S6.drp x key).length c8, N1, D1, by omega, by go_num, ?_⟩, by simp [intOf]; omega⟩
     refine ⟨Mod.trans (F := fun z => z = q3) (G := fun z => z = q3) (Mod.trans (F := fun z => z = q3) (G := fun z => z = q3) HM7.out (Mod.of_ext HX8.out) (fun _ _ h => h)) (Mod.setCell _ ⟨q3, 0, none⟩ _ rfl) (fun _ _ h => h), by rw [S6.drp_flat HOX.out]; exact H1.out, by rw [S6.drp_flat HOX.out]; exact H2.out, blk_set HB8.out 0 _, ?_, S6.drp_ok HOX.out key, by rw [S6.drp_flat HOX.out, HFL.out]; simp⟩
     exact ((HI8.out.mono (new3 hsW7 HX8.out.size)).set (HYQ.out w8) 0 _).mono (fun z hz => hz.imp id (fun h => ⟨h.1, by simpa using h.2⟩))
    | false =>
     have hvl : val.length <= 4000 := hwok.val
     have hcl : ∀ v, Ext w7 v -> Calls Tryz.prog 56 #[.slice ua val.length uc] v fun e w' => MadeB v w' val e := fun v hv => clone_any _ val v (Bs.ext HBU7.out hv) (by omega)
     have hx70 := Ext.of_drew w7
     go_upto_region 10 with fail
     have hHeld := hx70
     refine wp_region_C (fun w' => Ext w7 w') 8 (by kernel_rfl) ?_
     (refine aC [8] (i := 0) (oi := ⟨some 54, _, _, _, _, _⟩) (v := ?_) rfl ?_ hHeld ?_; rotate_left; (focus (intro w; intro hSw; (skip); go_simp; first | done | with_reducible rfl)); try simp only [Act.put, zB, zC, zD])
     (refine aC [8] (i := 1) (oi := ⟨some 55, _, _, _, _, _⟩) (v := ?_) rfl ?_ hHeld ?_; rotate_left; (focus (intro w; intro hSw; ((have q := hSw.cell t0)); go_simp; first | done | with_reducible rfl)); try simp only [Act.put, zB, zC, zD])
     (refine aC [8] (i := 2) (oi := ⟨some 56, _, _, _, _, _⟩) (v := ?_) rfl ?_ hHeld ?_; rotate_left; (focus (intro w; intro hSw; (skip); go_simp; first | done | with_reducible rfl)); try simp only [Act.put, zB, zC, zD])
     (refine aC [8] (i := 3) (oi := ⟨some 57, _, _, _, _, _⟩) (v := ?_) rfl ?_ hHeld ?_; rotate_left; (focus (intro w; intro hSw; ((have q := hSw.cell t1)); go_simp; first | done | with_reducible rfl)); try simp only [Act.put, zB, zC, zD])
     (refine aC [8] (i := 5) (oi := ⟨some 59, _, _, _, _, _⟩) (v := ?_) rfl ?_ hHeld ?_; rotate_left; (focus (intro w; intro hSw; (skip); go_simp; first | done | with_reducible rfl)); try simp only [Act.put, zB, zC, zD])
     refine wpAnyC_two (i := 4) (j := 7) (oi := ⟨some 58, _, _, _, _, _⟩) (oj := ⟨some 12, _, _, _, _, _⟩) rfl rfl (by kernel_rfl) (by decide) (by decide) (fun K hK => ?_) (fun K hK => ?_)
     ·rw [if_pos (by rfl)]
      go_simp
      refine (hcl _ hHeld).mono ?_
      rintro e w8 ⟨v8, rfl, hown8, hx8⟩
      obtain ⟨a8, c8, rfl⟩ := (Bs.of_own hown8).shape
      have hHeld2 := hHeld.trans hx8
      clear hHeld
      have hHeld := hHeld2
      clear hHeld2
      refine hK.out _ _ hHeld ?_
      clear hK K
      try simp only [Act.put, zB, zC, zD]
      (refine aC [8] (i := 6) (oi := ⟨some 60, _, _, _, _, _⟩) (v := ?_) rfl ?_ hHeld ?_; rotate_left; (focus (intro w; intro hSw; (skip); go_simp; first | done | with_reducible rfl)); try simp only [Act.put, zB, zC, zD])
      refine wpAnyC_one (i := 7) (oi := ⟨some 12, _, _, _, _, _⟩) rfl (by kernel_rfl) (by decide) (fun K hK => ?_)
      rw [if_pos (by rfl)]
      go_simp
      obtain ⟨wZ, hwZ⟩ : ∃ wZ, wZ = World.alloc w8 (.cells #[.string ⟨#[]⟩, .slice none 0 0, .int .u64 0] 129) := ⟨_, rfl⟩
      have hxZ : Ext w8 wZ := by rw [hwZ]; exact Ext.of_alloc _ _
      have hbZ : wZ.heap[w8.heap.size]? = some (.cells [.string ⟨#[]⟩, .slice none 0 0, .int .u64 0].toArray 129 (0, 0)) := by rw [hwZ]; exact heap_alloc_new _ _
      rw [<- hwZ]
      clear hwZ
      have hHeld2 := hHeld.trans hxZ
      clear hHeld
      have hHeld := hHeld2
      clear hHeld2
      refine hK.out _ _ hHeld ?_
      clear hK K
      try simp only [Act.put, zB, zC, zD]
      refine wpAnyC_c (oi := ⟨none, _, _, _, _, _⟩) rfl (by kernel_rfl) (fun K hK => ?_)
      rw [if_pos (by rfl)]
      refine wp_store_mid 129 _ _ rfl w8.heap.size 0 #[.string ⟨key.toArray⟩, .slice a8 val.length c8, .int .u64 (number : Int)] rfl rfl (there_blk hbZ 0 3 (by simp)) info_pair (by simp [Value.oneCell']) ?_
      refine hK.out _ _ ?_
      clear hK K
      try simp only [Act.put]
      refine wpAny_done (by kernel_rfl) ?_ _
      have hp5 : w7.heap.size <= w8.heap.size := Nat.le_trans hx70.size hx8.size
      have hm9 := mod_setCells (fun z => z = w8.heap.size) wZ w8.heap.size 0 (#[.string ⟨key.toArray⟩, .slice a8 val.length c8, .int .u64 (number : Int)] : Array Value).toList rfl
      have hb9 := blk_setCells w8.heap.size 129 (#[.string ⟨key.toArray⟩, .slice a8 val.length c8, .int .u64 (number : Int)] : Array Value).toList 0 wZ _ hbZ (by simp)
      have hx9 := Mod.ext hHeld hm9 (fun z hz => by omega)
      have hu9 : Bs _ (.slice a8 val.length c8) val := Reads.mod (((Bs.of_own hown8).ext hxZ)) hm9 (fun z hz e => by have := hown8.lt z hz; omega)
      have hu9X : ∀ z, (Value.slice a8 val.length c8).ownBlock = some z -> w7.heap.size <= z /\ z < wZ.heap.size := fun z hz => by have := hown8.lt z hz; have := hx70.size; have := hxZ.size; omega
      obtain ⟨w9, hw9⟩ : ∃ w9, w9 = World.setCells wZ w8.heap.size 0 (#[.string ⟨key.toArray⟩, .slice a8 val.length c8, .int .u64 (number : Int)] : Array Value).toList := ⟨_, rfl⟩
      rw [<- hw9] at hm9 hb9 hx9 hu9 ⊢
      obtain ⟨p5, hp5e⟩ : ∃ p5, p5 = w8.heap.size := ⟨_, rfl⟩
      have hp5k : w7.heap.size <= p5 := by rw [hp5e]; exact hp5
      rw [<- hp5e] at hb9 ⊢
      clear hp5
      have hs9 := hm9.size
      have hx9own : ∀ z, (Value.slice a8 val.length c8).ownBlock = some z -> w7.heap.size <= z := fun z hz => (hu9X z hz).1
      clear hw9 hm9 hHeld hp5e hx8 hown8 hbZ hxZ
      have hbp : w9.heap[p5]? = some (.cells [.string ⟨key.toArray⟩, .slice a8 val.length c8, .int .u64 (number : Int)].toArray 129 (0, 0)) := by simpa using hb9
      have hb39 := (Below.block (B := w7.heap.size) hx9 q3 h7q).trans HB7.out
      have m0 : w9.cell? ⟨q3, 0, none⟩ = some _ := (blk_cell hb39 0).trans rfl
      have r0 : w9.cell? ⟨p5, 0, none⟩ = some (.string ⟨key.toArray⟩) := (blk_cell hbp 0).trans rfl
      have r1 : w9.cell? ⟨p5, 1, none⟩ = some (.slice a8 val.length c8) := (blk_cell hbp 1).trans rfl
      have r2 : w9.cell? ⟨p5, 2, none⟩ = some (.int .u64 (number : Int)) := (blk_cell hbp 2).trans rfl
      have hI9 := (HI7.out.ext hx9).mono (show ∀ z, New Z W2 w7 z -> New Z W2 w9 z from fun z hz => New.mono hx9.size z hz)
      have hu9Y : ∀ z, (Value.slice a8 val.length c8).ownBlock = some z -> New Z W2 w9 z := fun z hz => .inr ⟨by have := hu9X z hz; omega, by have := hu9X z hz; omega⟩
      have HPUT := qh (xput_any w9 _ _ x ⟨key, val, number⟩ (.slice a8 val.length c8) hI9 HOX.out (by omega) (fun p hp => by have := hil2 p hp; omega) hu9 hu9Y)
      unfold prv strV at HPUT
      have h5q : ¬ p5 = q3 := by omega
      have hs79 := hx9.size
      have HX9 := qh hx9
      clear hb9 hI9 hu9Y hu9X hbp hx9
      go_wp2_with fail
      refine HPUT.out.mono ?_
      clear HPUT
      rintro e wA ⟨vA, rfl, hIA, hxA⟩
      obtain ⟨_, aA, cA, rfl, _⟩ := hIA.shape
      have hbA := (Below.block (B := w9.heap.size) hxA q3 (by omega)).trans hb39
      have gA0 : wA.cell? ⟨q3, 0, none⟩ = some _ := (blk_cell hbA 0).trans rfl
      have gAf := blk_free hbA 0
      have hmB := Mod.setCell (F := fun z => z = q3) wA ⟨q3, 0, none⟩ (.slice aA (S6.put x ⟨key, val, number⟩).length cA) rfl
      have hbB0 := blk_set hbA 0 (.slice aA (S6.put x ⟨key, val, number⟩).length cA)
      go_upto_region 12 with fail
      obtain ⟨wB, hwB⟩ : ∃ wB, wB = wA.setCell ⟨q3, 0, none⟩ (.slice aA (S6.put x ⟨key, val, number⟩).length cA) := ⟨_, rfl⟩
      rw [<- hwB] at hmB hbB0 ⊢
      have hbB : wB.heap[q3]? = some (.cells [.slice aA (S6.put x ⟨key, val, number⟩).length cA, .int .i64 (N1 : Int), .int .u64 (m : Int), .int .i64 (D1 : Int)].toArray 87 (0, 0)) := hbB0
      have HMB := qh (show Mod (fun z => z = q3) W2 wB from Mod.trans (F := fun z => z = q3) (G := fun z => z = q3) HM7.out (Mod.trans (F := fun z => z = q3) (G := fun z => z = q3) (Mod.of_ext (HX9.out.trans hxA)) hmB (fun _ _ h => h)) (fun _ _ h => h))
      have HIB := qh (((hIA.mono (new3 (W := W2) (w := w9) (v := wA) (by omega) hxA.size)).keeps (hmB.mono (fun z hz hY => HYQ.out wA (by rw [<- hz]; exact hY)))).mono (show ∀ z, New Z W2 wA z -> New Z W2 wB z from fun z hz => New.mono hmB.size z hz))
      have huA := hu9.ext hxA
      have huB : Bs wB (.slice a8 val.length c8) val := by
       rcases Nat.lt_or_ge 0 val.length with hv0 | hv0
       ·exact Reads.mod huA hmB (fun z hz e => by have := hx9own z hz; omega)
       ·obtain rfl : val = [] := List.eq_nil_of_length_eq_zero (by omega)
        exact Reads.mod huA hmB (fun z hz e => by have := hx9own z hz; omega)
      have k3 : wB.cell? ⟨q3, 3, none⟩ = some (.int .i64 (D1 : Int)) := (blk_cell hbB 3).trans rfl
      replace r0 := hmB.cell (hxA.cell r0) h5q
      replace r1 := hmB.cell (hxA.cell r1) h5q
      replace r2 := hmB.cell (hxA.cell r2) h5q
      obtain ⟨np2, hnp2⟩ : ∃ np2, np2 = S6.needP ⟨key, val, number⟩ := ⟨_, rfl⟩
      have hnp3 : np2 <= 9 := by rw [hnp2]; exact S6.needP_le (m := S6.lastN) ⟨hwok.key0, hwok.key, hwok.val, hn⟩ (Nat.le_refl _)
      obtain ⟨D2, hD2⟩ : ∃ D2, D2 = D1 + np2 := ⟨_, rfl⟩
      obtain ⟨N2, hN2⟩ : ∃ N2, N2 = N1 + 1 := ⟨_, rfl⟩
      have hx6n : (D1 : Int) + (np2 : Int) = (D2 : Int) := by omega
      have hx6m : (N1 : Int) + 1 = (N2 : Int) := by omega
      have hwr3 : IntKind.i64.wrap (D2 : Int) = (D2 : Int) := by rw [IntKind.wrap_i64]; omega
      have hwr4 : IntKind.i64.wrap (N2 : Int) = (N2 : Int) := by rw [IntKind.wrap_i64]; omega
      have G1 := qh (show N2 = (S6.put x ⟨key, val, number⟩).flatten.length by rw [S6.put_flat HOX.out, S6.ins_del_len HOX.out.srt, hN2, H1.out])
      have G2 := qh (show D2 = S6.needsL (S6.put x ⟨key, val, number⟩).flatten by rw [S6.put_flat HOX.out, S6.ins_del_needs HOX.out.srt, hD2, H2.out, hnp2])
      have HNP2 := qh hnp2
      clear hnp2 hD2 hN2 hwB hmB hbB0 hbA gA0 gAf huA hIA hxA hu9 hb39 m0 HX9
      have hHX := Ext.of_drew wB
      have hHeld := hHX
      refine wp_region_C (fun w' => Ext wB w') 6 (by kernel_rfl) ?_
      (refine aC [6] (i := 0) (oi := ⟨some 66, _, _, _, _, _⟩) (v := ?_) rfl ?_ hHeld ?_; rotate_left; (focus (intro w hSw; (skip); go_simp; first | done | with_reducible rfl)); try simp only [Act.put, zB, zC, zD])
      (refine aC [6] (i := 1) (oi := ⟨some 67, _, _, _, _, _⟩) (v := ?_) rfl ?_ hHeld ?_; rotate_left; (focus (intro w hSw; ((have q := hSw.cell k3)); go_simp; first | done | with_reducible rfl)); try simp only [Act.put, zB, zC, zD])
      (refine aC [6] (i := 2) (oi := ⟨some 68, _, _, _, _, _⟩) (v := ?_) rfl ?_ hHeld ?_; rotate_left; (focus (intro w hSw; (((have q := hSw.cell r0); (have qq := hSw.cell r1); (have qqq := hSw.cell r2))); go_simp; first | done | with_reducible rfl)); try simp only [Act.put, zB, zC, zD])
      refine wpAnyC_one (i := 3) (oi := ⟨some 69, _, _, _, _, _⟩) rfl (by kernel_rfl) (by decide) (fun K hK => ?_)
      rw [if_pos (by rfl)]
      go_simp
      refine (needs_any _ ⟨key, val, number⟩ (.slice a8 val.length c8) (Bs.ext huB hHeld) (by have := hwok.key; simp only at this ⊢; omega) (by simp only; omega) (by unfold S6.lastN at hn; simp only; omega)).mono ?_
      rintro e wC ⟨rfl, hxC⟩
      rw [<- HNP2.out]
      have hHeld2 := hHeld.trans hxC
      clear hHeld
      have hHeld := hHeld2
      clear hHeld2 hxC
      have hbC := (Below.block (B := wB.heap.size) hHeld q3 (blk_lt hbB)).trans hbB
      have s3 : wC.cell? ⟨q3, 3, none⟩ = some (.int .i64 (D1 : Int)) := (blk_cell hbC 3).trans rfl
      have s3f := blk_free hbC 3
      refine hK.out _ _ hHeld ?_
      clear hK K
      try simp only [Act.put, zB, zC, zD]
      (refine aC [6] (i := 4) (oi := ⟨some 70, _, _, _, _, _⟩) (v := ?_) rfl ?_ hHeld ?_; rotate_left; (focus (intro w hSw; (skip); go_simp; first | done | with_reducible rfl)); try simp only [Act.put, zB, zC, zD])
      (refine aC [6] (i := 5) (oi := ⟨some 71, _, _, _, _, _⟩) (v := ?_) rfl ?_ hHeld ?_; rotate_left; (focus (intro w hSw; (skip); go_simp; first | done | with_reducible rfl)); try simp only [Act.put, zB, zC, zD])
      refine wpAnyC_c (oi := ⟨none, _, _, _, _, _⟩) rfl (by kernel_rfl) (fun K hK => ?_)
      rw [if_pos (by rfl)]
      go_simp
      refine hK.out _ _ ?_
      clear hK K
      try simp only [Act.put, zB, zC, zD]
      refine wpAny_done (by kernel_rfl) ?_ _
      clear hHX
      have hbD := blk_set hbC 3 (.int .i64 (D2 : Int))
      have sD1 : (wC.setCell ⟨q3, 3, none⟩ (.int .i64 (D2 : Int))).cell? ⟨q3, 1, none⟩ = some (.int .i64 (N1 : Int)) := (blk_cell hbD 1).trans rfl
      have sD1f := blk_free hbD 1
      have hbE : ((wC.setCell ⟨q3, 3, none⟩ (.int .i64 (D2 : Int))).setCell ⟨q3, 1, none⟩ (.int .i64 (N2 : Int))).heap[q3]? = some (.cells [.slice aA (S6.put x ⟨key, val, number⟩).length cA, .int .i64 (N2 : Int), .int .u64 (m : Int), .int .i64 (D2 : Int)].toArray 87 (0, 0)) := blk_set hbD 1 _
      have hmE : Mod (fun z => z = q3) wB ((wC.setCell ⟨q3, 3, none⟩ (.int .i64 (D2 : Int))).setCell ⟨q3, 1, none⟩ (.int .i64 (N2 : Int))) := Mod.trans (F := fun z => z = q3) (G := fun z => z = q3) (Mod.trans (F := fun z => z = q3) (G := fun z => z = q3) (Mod.of_ext hHeld) (Mod.setCell _ ⟨q3, 3, none⟩ _ rfl) (fun _ _ h => h)) (Mod.setCell _ ⟨q3, 1, none⟩ _ rfl) (fun _ _ h => h)
      have HBE := qh hbE
      have HME := qh hmE
      clear hbE hmE hbD hbC hHeld s3 s3f
      go_wp2_with fail
      refine ⟨⟨k + 1, S6.put x ⟨key, val, number⟩, .slice aA (S6.put x ⟨key, val, number⟩).length cA, N2, D2, by omega, by go_num, ?_⟩, by simp [intOf]; omega⟩
      refine ⟨Mod.trans (F := fun z => z = q3) (G := fun z => z = q3) HMB.out HME.out (fun _ _ h => h), G1.out, G2.out, HBE.out, ?_, S6.put_ok HOX.out _, by rw [S6.put_flat HOX.out, HFL.out]; simp⟩
      exact (HIB.out.keeps (HME.out.mono (fun z hz hY => HYQ.out wB (by rw [<- hz]; exact hY)))).mono (fun z hz => New.mono HME.out.size z hz)
     ·rw [if_pos (by rfl)]
      go_simp
      obtain ⟨wZ, hwZ⟩ : ∃ wZ, wZ = (World.alloc w7 (.cells #[.string ⟨#[]⟩, .slice none 0 0, .int .u64 0] 129)).drew := ⟨_, rfl⟩
      have hxZ : Ext w7 wZ := by rw [hwZ]; exact (Ext.of_alloc _ _).drew
      have hbZ : wZ.heap[w7.heap.size]? = some (.cells [.string ⟨#[]⟩, .slice none 0 0, .int .u64 0].toArray 129 (0, 0)) := by rw [hwZ]; exact heap_alloc_new _ _
      rw [<- hwZ]
      clear hwZ
      have hHeld2 := hxZ
      clear hHeld
      have hHeld := hHeld2
      clear hHeld2
      refine hK.out _ _ hHeld ?_
      clear hK K
      try simp only [Act.put, zB, zC, zD]
      refine wpAnyC_one (i := 4) (oi := ⟨some 58, _, _, _, _, _⟩) rfl (by kernel_rfl) (by decide) (fun K hK => ?_)
      rw [if_pos (by rfl)]
      go_simp
      refine (hcl _ hHeld).mono ?_
      rintro e w8 ⟨v8, rfl, hown8, hx8⟩
      obtain ⟨a8, c8, rfl⟩ := (Bs.of_own hown8).shape
      have hHeld2 := hHeld.trans hx8
      clear hHeld
      have hHeld := hHeld2
      clear hHeld2
      refine hK.out _ _ hHeld ?_
      clear hK K
      try simp only [Act.put, zB, zC, zD]
      (refine aC [8] (i := 6) (oi := ⟨some 60, _, _, _, _, _⟩) (v := ?_) rfl ?_ hHeld ?_; rotate_left; (focus (intro w; intro hSw; (skip); go_simp; first | done | with_reducible rfl)); try simp only [Act.put, zB, zC, zD])
      refine wpAnyC_c (oi := ⟨none, _, _, _, _, _⟩) rfl (by kernel_rfl) (fun K hK => ?_)
      rw [if_pos (by rfl)]
      refine wp_store_mid 129 _ _ rfl w7.heap.size 0 #[.string ⟨key.toArray⟩, .slice a8 val.length c8, .int .u64 (number : Int)] rfl rfl (there_blk ((Below.block (B := wZ.heap.size) hx8 _ (blk_lt hbZ)).trans hbZ) 0 3 (by simp)) info_pair (by simp [Value.oneCell']) ?_
      refine hK.out _ _ ?_
      clear hK K
      try simp only [Act.put]
      refine wpAny_done (by kernel_rfl) ?_ _
      have hp5 : w7.heap.size <= w7.heap.size := Nat.le_refl _
      have hm9 := mod_setCells (fun z => z = w7.heap.size) w8 w7.heap.size 0 (#[.string ⟨key.toArray⟩, .slice a8 val.length c8, .int .u64 (number : Int)] : Array Value).toList rfl
      have hb9 := blk_setCells w7.heap.size 129 (#[.string ⟨key.toArray⟩, .slice a8 val.length c8, .int .u64 (number : Int)] : Array Value).toList 0 w8 _ ((Below.block (B := wZ.heap.size) hx8 _ (blk_lt hbZ)).trans hbZ) (by simp)
      have hx9 := Mod.ext hHeld hm9 (fun z hz => by omega)
      have hu9 : Bs _ (.slice a8 val.length c8) val := Reads.mod ((Bs.of_own hown8)) hm9 (fun z hz e => by have := hown8.lt z hz; have := blk_lt hbZ; omega)
      have hu9X : ∀ z, (Value.slice a8 val.length c8).ownBlock = some z -> w7.heap.size <= z /\ z < w8.heap.size := fun z hz => by have := hown8.lt z hz; have := hx70.size; have := hxZ.size; omega
      obtain ⟨w9, hw9⟩ : ∃ w9, w9 = World.setCells w8 w7.heap.size 0 (#[.string ⟨key.toArray⟩, .slice a8 val.length c8, .int .u64 (number : Int)] : Array Value).toList := ⟨_, rfl⟩
      rw [<- hw9] at hm9 hb9 hx9 hu9 ⊢
      obtain ⟨p5, hp5e⟩ : ∃ p5, p5 = w7.heap.size := ⟨_, rfl⟩
      have hp5k : w7.heap.size <= p5 := by rw [hp5e]; exact hp5
      rw [<- hp5e] at hb9 ⊢
      clear hp5
      have hs9 := hm9.size
      have hx9own : ∀ z, (Value.slice a8 val.length c8).ownBlock = some z -> w7.heap.size <= z := fun z hz => (hu9X z hz).1
      clear hw9 hm9 hHeld hp5e hx8 hown8 hbZ hxZ
      have hbp : w9.heap[p5]? = some (.cells [.string ⟨key.toArray⟩, .slice a8 val.length c8, .int .u64 (number : Int)].toArray 129 (0, 0)) := by simpa using hb9
      have hb39 := (Below.block (B := w7.heap.size) hx9 q3 h7q).trans HB7.out
      have m0 : w9.cell? ⟨q3, 0, none⟩ = some _ := (blk_cell hb39 0).trans rfl
      have r0 : w9.cell? ⟨p5, 0, none⟩ = some (.string ⟨key.toArray⟩) := (blk_cell hbp 0).trans rfl
      have r1 : w9.cell? ⟨p5, 1, none⟩ = some (.slice a8 val.length c8) := (blk_cell hbp 1).trans rfl
      have r2 : w9.cell? ⟨p5, 2, none⟩ = some (.int .u64 (number : Int)) := (blk_cell hbp 2).trans rfl
      have hI9 := (HI7.out.ext hx9).mono (show ∀ z, New Z W2 w7 z -> New Z W2 w9 z from fun z hz => New.mono hx9.size z hz)
      have hu9Y : ∀ z, (Value.slice a8 val.length c8).ownBlock = some z -> New Z W2 w9 z := fun z hz => .inr ⟨by have := hu9X z hz; omega, by have := hu9X z hz; omega⟩
      have HPUT := qh (xput_any w9 _ _ x ⟨key, val, number⟩ (.slice a8 val.length c8) hI9 HOX.out (by omega) (fun p hp => by have := hil2 p hp; omega) hu9 hu9Y)
      unfold prv strV at HPUT
      have h5q : ¬ p5 = q3 := by omega
      have hs79 := hx9.size
      have HX9 := qh hx9
      clear hb9 hI9 hu9Y hu9X hbp hx9
      go_wp2_with fail
      refine HPUT.out.mono ?_
      clear HPUT
      rintro e wA ⟨vA, rfl, hIA, hxA⟩
      obtain ⟨_, aA, cA, rfl, _⟩ := hIA.shape
      have hbA := (Below.block (B := w9.heap.size) hxA q3 (by omega)).trans hb39
      have gA0 : wA.cell? ⟨q3, 0, none⟩ = some _ := (blk_cell hbA 0).trans rfl
      have gAf := blk_free hbA 0
      have hmB := Mod.setCell (F := fun z => z = q3) wA ⟨q3, 0, none⟩ (.slice aA (S6.put x ⟨key, val, number⟩).length cA) rfl
      have hbB0 := blk_set hbA 0 (.slice aA (S6.put x ⟨key, val, number⟩).length cA)
      go_upto_region 12 with fail
      obtain ⟨wB, hwB⟩ : ∃ wB, wB = wA.setCell ⟨q3, 0, none⟩ (.slice aA (S6.put x ⟨key, val, number⟩).length cA) := ⟨_, rfl⟩
      rw [<- hwB] at hmB hbB0 ⊢
      have hbB : wB.heap[q3]? = some (.cells [.slice aA (S6.put x ⟨key, val, number⟩).length cA, .int .i64 (N1 : Int), .int .u64 (m : Int), .int .i64 (D1 : Int)].toArray 87 (0, 0)) := hbB0
      have HMB := qh (show Mod (fun z => z = q3) W2 wB from Mod.trans (F := fun z => z = q3) (G := fun z => z = q3) HM7.out (Mod.trans (F := fun z => z = q3) (G := fun z => z = q3) (Mod.of_ext (HX9.out.trans hxA)) hmB (fun _ _ h => h)) (fun _ _ h => h))
      have HIB := qh (((hIA.mono (new3 (W := W2) (w := w9) (v := wA) (by omega) hxA.size)).keeps (hmB.mono (fun z hz hY => HYQ.out wA (by rw [<- hz]; exact hY)))).mono (show ∀ z, New Z W2 wA z -> New Z W2 wB z from fun z hz => New.mono hmB.size z hz))
      have huA := hu9.ext hxA
      have huB : Bs wB (.slice a8 val.length c8) val := by
       rcases Nat.lt_or_ge 0 val.length with hv0 | hv0
       ·exact Reads.mod huA hmB (fun z hz e => by have := hx9own z hz; omega)
       ·obtain rfl : val = [] := List.eq_nil_of_length_eq_zero (by omega)
        exact Reads.mod huA hmB (fun z hz e => by have := hx9own z hz; omega)
      have k3 : wB.cell? ⟨q3, 3, none⟩ = some (.int .i64 (D1 : Int)) := (blk_cell hbB 3).trans rfl
      replace r0 := hmB.cell (hxA.cell r0) h5q
      replace r1 := hmB.cell (hxA.cell r1) h5q
      replace r2 := hmB.cell (hxA.cell r2) h5q
      obtain ⟨np2, hnp2⟩ : ∃ np2, np2 = S6.needP ⟨key, val, number⟩ := ⟨_, rfl⟩
      have hnp3 : np2 <= 9 := by rw [hnp2]; exact S6.needP_le (m := S6.lastN) ⟨hwok.key0, hwok.key, hwok.val, hn⟩ (Nat.le_refl _)
      obtain ⟨D2, hD2⟩ : ∃ D2, D2 = D1 + np2 := ⟨_, rfl⟩
      obtain ⟨N2, hN2⟩ : ∃ N2, N2 = N1 + 1 := ⟨_, rfl⟩
      have hx6n : (D1 : Int) + (np2 : Int) = (D2 : Int) := by omega
      have hx6m : (N1 : Int) + 1 = (N2 : Int) := by omega
      have hwr3 : IntKind.i64.wrap (D2 : Int) = (D2 : Int) := by rw [IntKind.wrap_i64]; omega
      have hwr4 : IntKind.i64.wrap (N2 : Int) = (N2 : Int) := by rw [IntKind.wrap_i64]; omega
      have G1 := qh (show N2 = (S6.put x ⟨key, val, number⟩).flatten.length by rw [S6.put_flat HOX.out, S6.ins_del_len HOX.out.srt, hN2, H1.out])
      have G2 := qh (show D2 = S6.needsL (S6.put x ⟨key, val, number⟩).flatten by rw [S6.put_flat HOX.out, S6.ins_del_needs HOX.out.srt, hD2, H2.out, hnp2])
      have HNP2 := qh hnp2
      clear hnp2 hD2 hN2 hwB hmB hbB0 hbA gA0 gAf huA hIA hxA hu9 hb39 m0 HX9
      have hHX := Ext.of_drew wB
      have hHeld := hHX
      refine wp_region_C (fun w' => Ext wB w') 6 (by kernel_rfl) ?_
      (refine aC [6] (i := 0) (oi := ⟨some 66, _, _, _, _, _⟩) (v := ?_) rfl ?_ hHeld ?_; rotate_left; (focus (intro w hSw; (skip); go_simp; first | done | with_reducible rfl)); try simp only [Act.put, zB, zC, zD])
      (refine aC [6] (i := 1) (oi := ⟨some 67, _, _, _, _, _⟩) (v := ?_) rfl ?_ hHeld ?_; rotate_left; (focus (intro w hSw; ((have q := hSw.cell k3)); go_simp; first | done | with_reducible rfl)); try simp only [Act.put, zB, zC, zD])
      (refine aC [6] (i := 2) (oi := ⟨some 68, _, _, _, _, _⟩) (v := ?_) rfl ?_ hHeld ?_; rotate_left; (focus (intro w hSw; (((have q := hSw.cell r0); (have qq := hSw.cell r1); (have qqq := hSw.cell r2))); go_simp; first | done | with_reducible rfl)); try simp only [Act.put, zB, zC, zD])
      refine wpAnyC_one (i := 3) (oi := ⟨some 69, _, _, _, _, _⟩) rfl (by kernel_rfl) (by decide) (fun K hK => ?_)
      rw [if_pos (by rfl)]
      go_simp
      refine (needs_any _ ⟨key, val, number⟩ (.slice a8 val.length c8) (Bs.ext huB hHeld) (by have := hwok.key; simp only at this ⊢; omega) (by simp only; omega) (by unfold S6.lastN at hn; simp only; omega)).mono ?_
      rintro e wC ⟨rfl, hxC⟩
      rw [<- HNP2.out]
      have hHeld2 := hHeld.trans hxC
      clear hHeld
      have hHeld := hHeld2
      clear hHeld2 hxC
      have hbC := (Below.block (B := wB.heap.size) hHeld q3 (blk_lt hbB)).trans hbB
      have s3 : wC.cell? ⟨q3, 3, none⟩ = some (.int .i64 (D1 : Int)) := (blk_cell hbC 3).trans rfl
      have s3f := blk_free hbC 3
      refine hK.out _ _ hHeld ?_
      clear hK K
      try simp only [Act.put, zB, zC, zD]
      (refine aC [6] (i := 4) (oi := ⟨some 70, _, _, _, _, _⟩) (v := ?_) rfl ?_ hHeld ?_; rotate_left; (focus (intro w hSw; (skip); go_simp; first | done | with_reducible rfl)); try simp only [Act.put, zB, zC, zD])
      (refine aC [6] (i := 5) (oi := ⟨some 71, _, _, _, _, _⟩) (v := ?_) rfl ?_ hHeld ?_; rotate_left; (focus (intro w hSw; (skip); go_simp; first | done | with_reducible rfl)); try simp only [Act.put, zB, zC, zD])
      refine wpAnyC_c (oi := ⟨none, _, _, _, _, _⟩) rfl (by kernel_rfl) (fun K hK => ?_)
      rw [if_pos (by rfl)]
      go_simp
      refine hK.out _ _ ?_
      clear hK K
      try simp only [Act.put, zB, zC, zD]
      refine wpAny_done (by kernel_rfl) ?_ _
      clear hHX
      have hbD := blk_set hbC 3 (.int .i64 (D2 : Int))
      have sD1 : (wC.setCell ⟨q3, 3, none⟩ (.int .i64 (D2 : Int))).cell? ⟨q3, 1, none⟩ = some (.int .i64 (N1 : Int)) := (blk_cell hbD 1).trans rfl
      have sD1f := blk_free hbD 1
      have hbE : ((wC.setCell ⟨q3, 3, none⟩ (.int .i64 (D2 : Int))).setCell ⟨q3, 1, none⟩ (.int .i64 (N2 : Int))).heap[q3]? = some (.cells [.slice aA (S6.put x ⟨key, val, number⟩).length cA, .int .i64 (N2 : Int), .int .u64 (m : Int), .int .i64 (D2 : Int)].toArray 87 (0, 0)) := blk_set hbD 1 _
      have hmE : Mod (fun z => z = q3) wB ((wC.setCell ⟨q3, 3, none⟩ (.int .i64 (D2 : Int))).setCell ⟨q3, 1, none⟩ (.int .i64 (N2 : Int))) := Mod.trans (F := fun z => z = q3) (G := fun z => z = q3) (Mod.trans (F := fun z => z = q3) (G := fun z => z = q3) (Mod.of_ext hHeld) (Mod.setCell _ ⟨q3, 3, none⟩ _ rfl) (fun _ _ h => h)) (Mod.setCell _ ⟨q3, 1, none⟩ _ rfl) (fun _ _ h => h)
      have HBE := qh hbE
      have HME := qh hmE
      clear hbE hmE hbD hbC hHeld s3 s3f
      go_wp2_with fail
      refine ⟨⟨k + 1, S6.put x ⟨key, val, number⟩, .slice aA (S6.put x ⟨key, val, number⟩).length cA, N2, D2, by omega, by go_num, ?_⟩, by simp [intOf]; omega⟩
      refine ⟨Mod.trans (F := fun z => z = q3) (G := fun z => z = q3) HMB.out HME.out (fun _ _ h => h), G1.out, G2.out, HBE.out, ?_, S6.put_ok HOX.out _, by rw [S6.put_flat HOX.out, HFL.out]; simp⟩
      exact (HIB.out.keeps (HME.out.mono (fun z hz hY => HYQ.out wB (by rw [<- hz]; exact hY)))).mono (fun z hz => New.mono HME.out.size z hz)
   ·have hfalse : (S6.find x key).2.2 = false := by simpa using hhas
    have hnone := (S6.look_find HOX.out key).2 hfalse
    have hdel := S6.del_none HOX.out.srt hnone
    obtain ⟨N1, hN1⟩ : ∃ N1, N1 = n := ⟨_, rfl⟩
    obtain ⟨D1, hD1⟩ : ∃ D1, D1 = nd := ⟨_, rfl⟩
    have H1 := qh (show N1 = (S6.del x.flatten key).length by rw [hdel, hN1]; exact HNN.out)
    have H2 := qh (show D1 = S6.needsL (S6.del x.flatten key) by rw [hdel, hD1]; exact HND.out)
    have hN9 : N1 <= 900000 := by omega
    have hD9 : D1 <= 9000000 := by omega
    rw [hfalse]
    go_upto_region 8 with fail
    rw [<- hN1, <- hD1] at HBK4
    obtain ⟨w7, hw7⟩ : ∃ w7, w7 = w4 := ⟨_, rfl⟩
    rw [<- hw7] at HBK4 HM4 HI4 HBU4 d0' d1' d2' e0' ⊢
    have HB7 := HBK4
    have HM7 := HM4
    have HI7 := HI4
    have HBU7 := HBU4
    have t0 := d0'
    have t1 := d1'
    have t2 := d2'
    clear hN1 hD1 hw7 HBK4 HM4 HI4 HBU4 d0' d1' d2' e0' hdel hnone
    have h7q : q3 < w7.heap.size := blk_lt HB7.out
    have s0 : w7.cell? ⟨q3, 0, none⟩ = some _ := (blk_cell HB7.out 0).trans rfl
    have hsW7 : W2.heap.size <= w7.heap.size := HM7.out.size
    cases dr with
    | true =>
     go_wp2_with fail
     refine (xdrop_any w7 _ _ x key HI7.out HOX.out (by omega) (fun p hp => by have := hil2 p hp; omega)).mono ?_
     rintro e w8 ⟨v8, rfl, hI8, hx8⟩
     obtain ⟨_, a8, c8, rfl, _⟩ := hI8.shape
     have hb8 := (Below.block (B := w7.heap.size) hx8 q3 h7q).trans HB7.out
     have s8 : w8.cell? ⟨q3, 0, none⟩ = some _ := (blk_cell hb8 0).trans rfl
     have s8f := blk_free hb8 0
     have HI8 := qh hI8
     have HX8 := qh hx8
     have HB8 := qh hb8
     clear hI8 hx8 hb8 s0
     go_wp2_with fail
     refine ⟨⟨k + 1, S6.drp x key, .slice a8 (S6.drp x key).length c8, N1, D1, by omega, by go_num, ?_⟩, by simp [intOf]; omega⟩
     refine ⟨Mod.trans (F := fun z => z = q3) (G := fun z => z = q3) (Mod.trans (F := fun z => z = q3) (G := fun z => z = q3) HM7.out (Mod.of_ext HX8.out) (fun _ _ h => h)) (Mod.setCell _ ⟨q3, 0, none⟩ _ rfl) (fun _ _ h => h), by rw [S6.drp_flat HOX.out]; exact H1.out, by rw [S6.drp_flat HOX.out]; exact H2.out, blk_set HB8.out 0 _, ?_, S6.drp_ok HOX.out key, by rw [S6.drp_flat HOX.out, HFL.out]; simp⟩
     exact ((HI8.out.mono (new3 hsW7 HX8.out.size)).set (HYQ.out w8) 0 _).mono (fun z hz => hz.imp id (fun h => ⟨h.1, by simpa using h.2⟩))
    | false =>
     have hvl : val.length <= 4000 := hwok.val
     have hcl : ∀ v, Ext w7 v -> Calls Tryz.prog 56 #[.slice ua val.length uc] v fun e w' => MadeB v w' val e := fun v hv => clone_any _ val v (Bs.ext HBU7.out hv) (by omega)
     have hx70 := Ext.of_drew w7
     go_upto_region 10 with fail
     have hHeld := hx70
     refine wp_region_C (fun w' => Ext w7 w') 8 (by kernel_rfl) ?_
     (refine aC [8] (i := 0) (oi := ⟨some 54, _, _, _, _, _⟩) (v := ?_) rfl ?_ hHeld ?_; rotate_left; (focus (intro w; intro hSw; (skip); go_simp; first | done | with_reducible rfl)); try simp only [Act.put, zB, zC, zD])
     (refine aC [8] (i := 1) (oi := ⟨some 55, _, _, _, _, _⟩) (v := ?_) rfl ?_ hHeld ?_; rotate_left; (focus (intro w; intro hSw; ((have q := hSw.cell t0)); go_simp; first | done | with_reducible rfl)); try simp only [Act.put, zB, zC, zD])
     (refine aC [8] (i := 2) (oi := ⟨some 56, _, _, _, _, _⟩) (v := ?_) rfl ?_ hHeld ?_; rotate_left; (focus (intro w; intro hSw; (skip); go_simp; first | done | with_reducible rfl)); try simp only [Act.put, zB, zC, zD])
     (refine aC [8] (i := 3) (oi := ⟨some 57, _, _, _, _, _⟩) (v := ?_) rfl ?_ hHeld ?_; rotate_left; (focus (intro w; intro hSw; ((have q := hSw.cell t1)); go_simp; first | done | with_reducible rfl)); try simp only [Act.put, zB, zC, zD])
     (refine aC [8] (i := 5) (oi := ⟨some 59, _, _, _, _, _⟩) (v := ?_) rfl ?_ hHeld ?_; rotate_left; (focus (intro w; intro hSw; (skip); go_simp; first | done | with_reducible rfl)); try simp only [Act.put, zB, zC, zD])
     refine wpAnyC_two (i := 4) (j := 7) (oi := ⟨some 58, _, _, _, _, _⟩) (oj := ⟨some 12, _, _, _, _, _⟩) rfl rfl (by kernel_rfl) (by decide) (by decide) (fun K hK => ?_) (fun K hK => ?_)
     ·rw [if_pos (by rfl)]
      go_simp
      refine (hcl _ hHeld).mono ?_
      rintro e w8 ⟨v8, rfl, hown8, hx8⟩
      obtain ⟨a8, c8, rfl⟩ := (Bs.of_own hown8).shape
      have hHeld2 := hHeld.trans hx8
      clear hHeld
      have hHeld := hHeld2
      clear hHeld2
      refine hK.out _ _ hHeld ?_
      clear hK K
      try simp only [Act.put, zB, zC, zD]
      (refine aC [8] (i := 6) (oi := ⟨some 60, _, _, _, _, _⟩) (v := ?_) rfl ?_ hHeld ?_; rotate_left; (focus (intro w; intro hSw; (skip); go_simp; first | done | with_reducible rfl)); try simp only [Act.put, zB, zC, zD])
      refine wpAnyC_one (i := 7) (oi := ⟨some 12, _, _, _, _, _⟩) rfl (by kernel_rfl) (by decide) (fun K hK => ?_)
      rw [if_pos (by rfl)]
      go_simp
      obtain ⟨wZ, hwZ⟩ : ∃ wZ, wZ = World.alloc w8 (.cells #[.string ⟨#[]⟩, .slice none 0 0, .int .u64 0] 129) := ⟨_, rfl⟩
      have hxZ : Ext w8 wZ := by rw [hwZ]; exact Ext.of_alloc _ _
      have hbZ : wZ.heap[w8.heap.size]? = some (.cells [.string ⟨#[]⟩, .slice none 0 0, .int .u64 0].toArray 129 (0, 0)) := by rw [hwZ]; exact heap_alloc_new _ _
      rw [<- hwZ]
      clear hwZ
      have hHeld2 := hHeld.trans hxZ
      clear hHeld
      have hHeld := hHeld2
      clear hHeld2
      refine hK.out _ _ hHeld ?_
      clear hK K
      try simp only [Act.put, zB, zC, zD]
      refine wpAnyC_c (oi := ⟨none, _, _, _, _, _⟩) rfl (by kernel_rfl) (fun K hK => ?_)
      rw [if_pos (by rfl)]
      refine wp_store_mid 129 _ _ rfl w8.heap.size 0 #[.string ⟨key.toArray⟩, .slice a8 val.length c8, .int .u64 (number : Int)] rfl rfl (there_blk hbZ 0 3 (by simp)) info_pair (by simp [Value.oneCell']) ?_
      refine hK.out _ _ ?_
      clear hK K
      try simp only [Act.put]
      refine wpAny_done (by kernel_rfl) ?_ _
      have hp5 : w7.heap.size <= w8.heap.size := Nat.le_trans hx70.size hx8.size
      have hm9 := mod_setCells (fun z => z = w8.heap.size) wZ w8.heap.size 0 (#[.string ⟨key.toArray⟩, .slice a8 val.length c8, .int .u64 (number : Int)] : Array Value).toList rfl
      have hb9 := blk_setCells w8.heap.size 129 (#[.string ⟨key.toArray⟩, .slice a8 val.length c8, .int .u64 (number : Int)] : Array Value).toList 0 wZ _ hbZ (by simp)
      have hx9 := Mod.ext hHeld hm9 (fun z hz => by omega)
      have hu9 : Bs _ (.slice a8 val.length c8) val := Reads.mod (((Bs.of_own hown8).ext hxZ)) hm9 (fun z hz e => by have := hown8.lt z hz; omega)
      have hu9X : ∀ z, (Value.slice a8 val.length c8).ownBlock = some z -> w7.heap.size <= z /\ z < wZ.heap.size := fun z hz => by have := hown8.lt z hz; have := hx70.size; have := hxZ.size; omega
      obtain ⟨w9, hw9⟩ : ∃ w9, w9 = World.setCells wZ w8.heap.size 0 (#[.string ⟨key.toArray⟩, .slice a8 val.length c8, .int .u64 (number : Int)] : Array Value).toList := ⟨_, rfl⟩
      rw [<- hw9] at hm9 hb9 hx9 hu9 ⊢
      obtain ⟨p5, hp5e⟩ : ∃ p5, p5 = w8.heap.size := ⟨_, rfl⟩
      have hp5k : w7.heap.size <= p5 := by rw [hp5e]; exact hp5
      rw [<- hp5e] at hb9 ⊢
      clear hp5
      have hs9 := hm9.size
      have hx9own : ∀ z, (Value.slice a8 val.length c8).ownBlock = some z -> w7.heap.size <= z := fun z hz => (hu9X z hz).1
      clear hw9 hm9 hHeld hp5e hx8 hown8 hbZ hxZ
      have hbp : w9.heap[p5]? = some (.cells [.string ⟨key.toArray⟩, .slice a8 val.length c8, .int .u64 (number : Int)].toArray 129 (0, 0)) := by simpa using hb9
      have hb39 := (Below.block (B := w7.heap.size) hx9 q3 h7q).trans HB7.out
      have m0 : w9.cell? ⟨q3, 0, none⟩ = some _ := (blk_cell hb39 0).trans rfl
      have r0 : w9.cell? ⟨p5, 0, none⟩ = some (.string ⟨key.toArray⟩) := (blk_cell hbp 0).trans rfl
      have r1 : w9.cell? ⟨p5, 1, none⟩ = some (.slice a8 val.length c8) := (blk_cell hbp 1).trans rfl
      have r2 : w9.cell? ⟨p5, 2, none⟩ = some (.int .u64 (number : Int)) := (blk_cell hbp 2).trans rfl
      have hI9 := (HI7.out.ext hx9).mono (show ∀ z, New Z W2 w7 z -> New Z W2 w9 z from fun z hz => New.mono hx9.size z hz)
      have hu9Y : ∀ z, (Value.slice a8 val.length c8).ownBlock = some z -> New Z W2 w9 z := fun z hz => .inr ⟨by have := hu9X z hz; omega, by have := hu9X z hz; omega⟩
      have HPUT := qh (xput_any w9 _ _ x ⟨key, val, number⟩ (.slice a8 val.length c8) hI9 HOX.out (by omega) (fun p hp => by have := hil2 p hp; omega) hu9 hu9Y)
      unfold prv strV at HPUT
      have h5q : ¬ p5 = q3 := by omega
      have hs79 := hx9.size
      have HX9 := qh hx9
      clear hb9 hI9 hu9Y hu9X hbp hx9
      go_wp2_with fail
      refine HPUT.out.mono ?_
      clear HPUT
      rintro e wA ⟨vA, rfl, hIA, hxA⟩
      obtain ⟨_, aA, cA, rfl, _⟩ := hIA.shape
      have hbA := (Below.block (B := w9.heap.size) hxA q3 (by omega)).trans hb39
      have gA0 : wA.cell? ⟨q3, 0, none⟩ = some _ := (blk_cell hbA 0).trans rfl
      have gAf := blk_free hbA 0
      have hmB := Mod.setCell (F := fun z => z = q3) wA ⟨q3, 0, none⟩ (.slice aA (S6.put x ⟨key, val, number⟩).length cA) rfl
      have hbB0 := blk_set hbA 0 (.slice aA (S6.put x ⟨key, val, number⟩).length cA)
      go_upto_region 12 with fail
      obtain ⟨wB, hwB⟩ : ∃ wB, wB = wA.setCell ⟨q3, 0, none⟩ (.slice aA (S6.put x ⟨key, val, number⟩).length cA) := ⟨_, rfl⟩
      rw [<- hwB] at hmB hbB0 ⊢
      have hbB : wB.heap[q3]? = some (.cells [.slice aA (S6.put x ⟨key, val, number⟩).length cA, .int .i64 (N1 : Int), .int .u64 (m : Int), .int .i64 (D1 : Int)].toArray 87 (0, 0)) := hbB0
      have HMB := qh (show Mod (fun z => z = q3) W2 wB from Mod.trans (F := fun z => z = q3) (G := fun z => z = q3) HM7.out (Mod.trans (F := fun z => z = q3) (G := fun z => z = q3) (Mod.of_ext (HX9.out.trans hxA)) hmB (fun _ _ h => h)) (fun _ _ h => h))
      have HIB := qh (((hIA.mono (new3 (W := W2) (w := w9) (v := wA) (by omega) hxA.size)).keeps (hmB.mono (fun z hz hY => HYQ.out wA (by rw [<- hz]; exact hY)))).mono (show ∀ z, New Z W2 wA z -> New Z W2 wB z from fun z hz => New.mono hmB.size z hz))
      have huA := hu9.ext hxA
      have huB : Bs wB (.slice a8 val.length c8) val := by
       rcases Nat.lt_or_ge 0 val.length with hv0 | hv0
       ·exact Reads.mod huA hmB (fun z hz e => by have := hx9own z hz; omega)
       ·obtain rfl : val = [] := List.eq_nil_of_length_eq_zero (by omega)
        exact Reads.mod huA hmB (fun z hz e => by have := hx9own z hz; omega)
      have k3 : wB.cell? ⟨q3, 3, none⟩ = some (.int .i64 (D1 : Int)) := (blk_cell hbB 3).trans rfl
      replace r0 := hmB.cell (hxA.cell r0) h5q
      replace r1 := hmB.cell (hxA.cell r1) h5q
      replace r2 := hmB.cell (hxA.cell r2) h5q
      obtain ⟨np2, hnp2⟩ : ∃ np2, np2 = S6.needP ⟨key, val, number⟩ := ⟨_, rfl⟩
      have hnp3 : np2 <= 9 := by rw [hnp2]; exact S6.needP_le (m := S6.lastN) ⟨hwok.key0, hwok.key, hwok.val, hn⟩ (Nat.le_refl _)
      obtain ⟨D2, hD2⟩ : ∃ D2, D2 = D1 + np2 := ⟨_, rfl⟩
      obtain ⟨N2, hN2⟩ : ∃ N2, N2 = N1 + 1 := ⟨_, rfl⟩
      have hx6n : (D1 : Int) + (np2 : Int) = (D2 : Int) := by omega
      have hx6m : (N1 : Int) + 1 = (N2 : Int) := by omega
      have hwr3 : IntKind.i64.wrap (D2 : Int) = (D2 : Int) := by rw [IntKind.wrap_i64]; omega
      have hwr4 : IntKind.i64.wrap (N2 : Int) = (N2 : Int) := by rw [IntKind.wrap_i64]; omega
      have G1 := qh (show N2 = (S6.put x ⟨key, val, number⟩).flatten.length by rw [S6.put_flat HOX.out, S6.ins_del_len HOX.out.srt, hN2, H1.out])
      have G2 := qh (show D2 = S6.needsL (S6.put x ⟨key, val, number⟩).flatten by rw [S6.put_flat HOX.out, S6.ins_del_needs HOX.out.srt, hD2, H2.out, hnp2])
      have HNP2 := qh hnp2
      clear hnp2 hD2 hN2 hwB hmB hbB0 hbA gA0 gAf huA hIA hxA hu9 hb39 m0 HX9
      have hHX := Ext.of_drew wB
      have hHeld := hHX
      refine wp_region_C (fun w' => Ext wB w') 6 (by kernel_rfl) ?_
      (refine aC [6] (i := 0) (oi := ⟨some 66, _, _, _, _, _⟩) (v := ?_) rfl ?_ hHeld ?_; rotate_left; (focus (intro w hSw; (skip); go_simp; first | done | with_reducible rfl)); try simp only [Act.put, zB, zC, zD])
      (refine aC [6] (i := 1) (oi := ⟨some 67, _, _, _, _, _⟩) (v := ?_) rfl ?_ hHeld ?_; rotate_left; (focus (intro w hSw; ((have q := hSw.cell k3)); go_simp; first | done | with_reducible rfl)); try simp only [Act.put, zB, zC, zD])
      (refine aC [6] (i := 2) (oi := ⟨some 68, _, _, _, _, _⟩) (v := ?_) rfl ?_ hHeld ?_; rotate_left; (focus (intro w hSw; (((have q := hSw.cell r0); (have qq := hSw.cell r1); (have qqq := hSw.cell r2))); go_simp; first | done | with_reducible rfl)); try simp only [Act.put, zB, zC, zD])
      refine wpAnyC_one (i := 3) (oi := ⟨some 69, _, _, _, _, _⟩) rfl (by kernel_rfl) (by decide) (fun K hK => ?_)
      rw [if_pos (by rfl)]
      go_simp
      refine (needs_any _ ⟨key, val, number⟩ (.slice a8 val.length c8) (Bs.ext huB hHeld) (by have := hwok.key; simp only at this ⊢; omega) (by simp only; omega) (by unfold S6.lastN at hn; simp only; omega)).mono ?_
      rintro e wC ⟨rfl, hxC⟩
      rw [<- HNP2.out]
      have hHeld2 := hHeld.trans hxC
      clear hHeld
      have hHeld := hHeld2
      clear hHeld2 hxC
      have hbC := (Below.block (B := wB.heap.size) hHeld q3 (blk_lt hbB)).trans hbB
      have s3 : wC.cell? ⟨q3, 3, none⟩ = some (.int .i64 (D1 : Int)) := (blk_cell hbC 3).trans rfl
      have s3f := blk_free hbC 3
      refine hK.out _ _ hHeld ?_
      clear hK K
      try simp only [Act.put, zB, zC, zD]
      (refine aC [6] (i := 4) (oi := ⟨some 70, _, _, _, _, _⟩) (v := ?_) rfl ?_ hHeld ?_; rotate_left; (focus (intro w hSw; (skip); go_simp; first | done | with_reducible rfl)); try simp only [Act.put, zB, zC, zD])
      (refine aC [6] (i := 5) (oi := ⟨some 71, _, _, _, _, _⟩) (v := ?_) rfl ?_ hHeld ?_; rotate_left; (focus (intro w hSw; (skip); go_simp; first | done | with_reducible rfl)); try simp only [Act.put, zB, zC, zD])
      refine wpAnyC_c (oi := ⟨none, _, _, _, _, _⟩) rfl (by kernel_rfl) (fun K hK => ?_)
      rw [if_pos (by rfl)]
      go_simp
      refine hK.out _ _ ?_
      clear hK K
      try simp only [Act.put, zB, zC, zD]
      refine wpAny_done (by kernel_rfl) ?_ _
      clear hHX
      have hbD := blk_set hbC 3 (.int .i64 (D2 : Int))
      have sD1 : (wC.setCell ⟨q3, 3, none⟩ (.int .i64 (D2 : Int))).cell? ⟨q3, 1, none⟩ = some (.int .i64 (N1 : Int)) := (blk_cell hbD 1).trans rfl
      have sD1f := blk_free hbD 1
      have hbE : ((wC.setCell ⟨q3, 3, none⟩ (.int .i64 (D2 : Int))).setCell ⟨q3, 1, none⟩ (.int .i64 (N2 : Int))).heap[q3]? = some (.cells [.slice aA (S6.put x ⟨key, val, number⟩).length cA, .int .i64 (N2 : Int), .int .u64 (m : Int), .int .i64 (D2 : Int)].toArray 87 (0, 0)) := blk_set hbD 1 _
      have hmE : Mod (fun z => z = q3) wB ((wC.setCell ⟨q3, 3, none⟩ (.int .i64 (D2 : Int))).setCell ⟨q3, 1, none⟩ (.int .i64 (N2 : Int))) := Mod.trans (F := fun z => z = q3) (G := fun z => z = q3) (Mod.trans (F := fun z => z = q3) (G := fun z => z = q3) (Mod.of_ext hHeld) (Mod.setCell _ ⟨q3, 3, none⟩ _ rfl) (fun _ _ h => h)) (Mod.setCell _ ⟨q3, 1, none⟩ _ rfl) (fun _ _ h => h)
      have HBE := qh hbE
      have HME := qh hmE
      clear hbE hmE hbD hbC hHeld s3 s3f
      go_wp2_with fail
      refine ⟨⟨k + 1, S6.put x ⟨key, val, number⟩, .slice aA (S6.put x ⟨key, val, number⟩).length cA, N2, D2, by omega, by go_num, ?_⟩, by simp [intOf]; omega⟩
      refine ⟨Mod.trans (F := fun z => z = q3) (G := fun z => z = q3) HMB.out HME.out (fun _ _ h => h), G1.out, G2.out, HBE.out, ?_, S6.put_ok HOX.out _, by rw [S6.put_flat HOX.out, HFL.out]; simp⟩
      exact (HIB.out.keeps (HME.out.mono (fun z hz hY => HYQ.out wB (by rw [<- hz]; exact hY)))).mono (fun z hz => New.mono HME.out.size z hz)
     ·rw [if_pos (by rfl)]
      go_simp
      obtain ⟨wZ, hwZ⟩ : ∃ wZ, wZ = (World.alloc w7 (.cells #[.string ⟨#[]⟩, .slice none 0 0, .int .u64 0] 129)).drew := ⟨_, rfl⟩
      have hxZ : Ext w7 wZ := by rw [hwZ]; exact (Ext.of_alloc _ _).drew
      have hbZ : wZ.heap[w7.heap.size]? = some (.cells [.string ⟨#[]⟩, .slice none 0 0, .int .u64 0].toArray 129 (0, 0)) := by rw [hwZ]; exact heap_alloc_new _ _
      rw [<- hwZ]
      clear hwZ
      have hHeld2 := hxZ
      clear hHeld
      have hHeld := hHeld2
      clear hHeld2
      refine hK.out _ _ hHeld ?_
      clear hK K
      try simp only [Act.put, zB, zC, zD]
      refine wpAnyC_one (i := 4) (oi := ⟨some 58, _, _, _, _, _⟩) rfl (by kernel_rfl) (by decide) (fun K hK => ?_)
      rw [if_pos (by rfl)]
      go_simp
      refine (hcl _ hHeld).mono ?_
      rintro e w8 ⟨v8, rfl, hown8, hx8⟩
      obtain ⟨a8, c8, rfl⟩ := (Bs.of_own hown8).shape
      have hHeld2 := hHeld.trans hx8
      clear hHeld
      have hHeld := hHeld2
      clear hHeld2
      refine hK.out _ _ hHeld ?_
      clear hK K
      try simp only [Act.put, zB, zC, zD]
      (refine aC [8] (i := 6) (oi := ⟨some 60, _, _, _, _, _⟩) (v := ?_) rfl ?_ hHeld ?_; rotate_left; (focus (intro w; intro hSw; (skip); go_simp; first | done | with_reducible rfl)); try simp only [Act.put, zB, zC, zD])
      refine wpAnyC_c (oi := ⟨none, _, _, _, _, _⟩) rfl (by kernel_rfl) (fun K hK => ?_)
      rw [if_pos (by rfl)]
      refine wp_store_mid 129 _ _ rfl w7.heap.size 0 #[.string ⟨key.toArray⟩, .slice a8 val.length c8, .int .u64 (number : Int)] rfl rfl (there_blk ((Below.block (B := wZ.heap.size) hx8 _ (blk_lt hbZ)).trans hbZ) 0 3 (by simp)) info_pair (by simp [Value.oneCell']) ?_
      refine hK.out _ _ ?_
      clear hK K
      try simp only [Act.put]
      refine wpAny_done (by kernel_rfl) ?_ _
      have hp5 : w7.heap.size <= w7.heap.size := Nat.le_refl _
      have hm9 := mod_setCells (fun z => z = w7.heap.size) w8 w7.heap.size 0 (#[.string ⟨key.toArray⟩, .slice a8 val.length c8, .int .u64 (number : Int)] : Array Value).toList rfl
      have hb9 := blk_setCells w7.heap.size 129 (#[.string ⟨key.toArray⟩, .slice a8 val.length c8, .int .u64 (number : Int)] : Array Value).toList 0 w8 _ ((Below.block (B := wZ.heap.size) hx8 _ (blk_lt hbZ)).trans hbZ) (by simp)
      have hx9 := Mod.ext hHeld hm9 (fun z hz => by omega)
      have hu9 : Bs _ (.slice a8 val.length c8) val := Reads.mod ((Bs.of_own hown8)) hm9 (fun z hz e => by have := hown8.lt z hz; have := blk_lt hbZ; omega)
      have hu9X : ∀ z, (Value.slice a8 val.length c8).ownBlock = some z -> w7.heap.size <= z /\ z < w8.heap.size := fun z hz => by have := hown8.lt z hz; have := hx70.size; have := hxZ.size; omega
      obtain ⟨w9, hw9⟩ : ∃ w9, w9 = World.setCells w8 w7.heap.size 0 (#[.string ⟨key.toArray⟩, .slice a8 val.length c8, .int .u64 (number : Int)] : Array Value).toList := ⟨_, rfl⟩
      rw [<- hw9] at hm9 hb9 hx9 hu9 ⊢
      obtain ⟨p5, hp5e⟩ : ∃ p5, p5 = w7.heap.size := ⟨_, rfl⟩
      have hp5k : w7.heap.size <= p5 := by rw [hp5e]; exact hp5
      rw [<- hp5e] at hb9 ⊢
      clear hp5
      have hs9 := hm9.size
      have hx9own : ∀ z, (Value.slice a8 val.length c8).ownBlock = some z -> w7.heap.size <= z := fun z hz => (hu9X z hz).1
      clear hw9 hm9 hHeld hp5e hx8 hown8 hbZ hxZ
      have hbp : w9.heap[p5]? = some (.cells [.string ⟨key.toArray⟩, .slice a8 val.length c8, .int .u64 (number : Int)].toArray 129 (0, 0)) := by simpa using hb9
      have hb39 := (Below.block (B := w7.heap.size) hx9 q3 h7q).trans HB7.out
      have m0 : w9.cell? ⟨q3, 0, none⟩ = some _ := (blk_cell hb39 0).trans rfl
      have r0 : w9.cell? ⟨p5, 0, none⟩ = some (.string ⟨key.toArray⟩) := (blk_cell hbp 0).trans rfl
      have r1 : w9.cell? ⟨p5, 1, none⟩ = some (.slice a8 val.length c8) := (blk_cell hbp 1).trans rfl
      have r2 : w9.cell? ⟨p5, 2, none⟩ = some (.int .u64 (number : Int)) := (blk_cell hbp 2).trans rfl
      have hI9 := (HI7.out.ext hx9).mono (show ∀ z, New Z W2 w7 z -> New Z W2 w9 z from fun z hz => New.mono hx9.size z hz)
      have hu9Y : ∀ z, (Value.slice a8 val.length c8).ownBlock = some z -> New Z W2 w9 z := fun z hz => .inr ⟨by have := hu9X z hz; omega, by have := hu9X z hz; omega⟩
      have HPUT := qh (xput_any w9 _ _ x ⟨key, val, number⟩ (.slice a8 val.length c8) hI9 HOX.out (by omega) (fun p hp => by have := hil2 p hp; omega) hu9 hu9Y)
      unfold prv strV at HPUT
      have h5q : ¬ p5 = q3 := by omega
      have hs79 := hx9.size
      have HX9 := qh hx9
      clear hb9 hI9 hu9Y hu9X hbp hx9
      go_wp2_with fail
      refine HPUT.out.mono ?_
      clear HPUT
      rintro e wA ⟨vA, rfl, hIA, hxA⟩
      obtain ⟨_, aA, cA, rfl, _⟩ := hIA.shape
      have hbA := (Below.block (B := w9.heap.size) hxA q3 (by omega)).trans hb39
      have gA0 : wA.cell? ⟨q3, 0, none⟩ = some _ := (blk_cell hbA 0).trans rfl
      have gAf := blk_free hbA 0
      have hmB := Mod.setCell (F := fun z => z = q3) wA ⟨q3, 0, none⟩ (.slice aA (S6.put x ⟨key, val, number⟩).length cA) rfl
      have hbB0 := blk_set hbA 0 (.slice aA (S6.put x ⟨key, val, number⟩).length cA)
      go_upto_region 12 with fail
      obtain ⟨wB, hwB⟩ : ∃ wB, wB = wA.setCell ⟨q3, 0, none⟩ (.slice aA (S6.put x ⟨key, val, number⟩).length cA) := ⟨_, rfl⟩
      rw [<- hwB] at hmB hbB0 ⊢
      have hbB : wB.heap[q3]? = some (.cells [.slice aA (S6.put x ⟨key, val, number⟩).length cA, .int .i64 (N1 : Int), .int .u64 (m : Int), .int .i64 (D1 : Int)].toArray 87 (0, 0)) := hbB0
      have HMB := qh (show Mod (fun z => z = q3) W2 wB from Mod.trans (F := fun z => z = q3) (G := fun z => z = q3) HM7.out (Mod.trans (F := fun z => z = q3) (G := fun z => z = q3) (Mod.of_ext (HX9.out.trans hxA)) hmB (fun _ _ h => h)) (fun _ _ h => h))
      have HIB := qh (((hIA.mono (new3 (W := W2) (w := w9) (v := wA) (by omega) hxA.size)).keeps (hmB.mono (fun z hz hY => HYQ.out wA (by rw [<- hz]; exact hY)))).mono (show ∀ z, New Z W2 wA z -> New Z W2 wB z from fun z hz => New.mono hmB.size z hz))
      have huA := hu9.ext hxA
      have huB : Bs wB (.slice a8 val.length c8) val := by
       rcases Nat.lt_or_ge 0 val.length with hv0 | hv0
       ·exact Reads.mod huA hmB (fun z hz e => by have := hx9own z hz; omega)
       ·obtain rfl : val = [] := List.eq_nil_of_length_eq_zero (by omega)
        exact Reads.mod huA hmB (fun z hz e => by have := hx9own z hz; omega)
      have k3 : wB.cell? ⟨q3, 3, none⟩ = some (.int .i64 (D1 : Int)) := (blk_cell hbB 3).trans rfl
      replace r0 := hmB.cell (hxA.cell r0) h5q
      replace r1 := hmB.cell (hxA.cell r1) h5q
      replace r2 := hmB.cell (hxA.cell r2) h5q
      obtain ⟨np2, hnp2⟩ : ∃ np2, np2 = S6.needP ⟨key, val, number⟩ := ⟨_, rfl⟩
      have hnp3 : np2 <= 9 := by rw [hnp2]; exact S6.needP_le (m := S6.lastN) ⟨hwok.key0, hwok.key, hwok.val, hn⟩ (Nat.le_refl _)
      obtain ⟨D2, hD2⟩ : ∃ D2, D2 = D1 + np2 := ⟨_, rfl⟩
      obtain ⟨N2, hN2⟩ : ∃ N2, N2 = N1 + 1 := ⟨_, rfl⟩
      have hx6n : (D1 : Int) + (np2 : Int) = (D2 : Int) := by omega
      have hx6m : (N1 : Int) + 1 = (N2 : Int) := by omega
      have hwr3 : IntKind.i64.wrap (D2 : Int) = (D2 : Int) := by rw [IntKind.wrap_i64]; omega
      have hwr4 : IntKind.i64.wrap (N2 : Int) = (N2 : Int) := by rw [IntKind.wrap_i64]; omega
      have G1 := qh (show N2 = (S6.put x ⟨key, val, number⟩).flatten.length by rw [S6.put_flat HOX.out, S6.ins_del_len HOX.out.srt, hN2, H1.out])
      have G2 := qh (show D2 = S6.needsL (S6.put x ⟨key, val, number⟩).flatten by rw [S6.put_flat HOX.out, S6.ins_del_needs HOX.out.srt, hD2, H2.out, hnp2])
      have HNP2 := qh hnp2
      clear hnp2 hD2 hN2 hwB hmB hbB0 hbA gA0 gAf huA hIA hxA hu9 hb39 m0 HX9
      have hHX := Ext.of_drew wB
      have hHeld := hHX
      refine wp_region_C (fun w' => Ext wB w') 6 (by kernel_rfl) ?_
      (refine aC [6] (i := 0) (oi := ⟨some 66, _, _, _, _, _⟩) (v := ?_) rfl ?_ hHeld ?_; rotate_left; (focus (intro w hSw; (skip); go_simp; first | done | with_reducible rfl)); try simp only [Act.put, zB, zC, zD])
      (refine aC [6] (i := 1) (oi := ⟨some 67, _, _, _, _, _⟩) (v := ?_) rfl ?_ hHeld ?_; rotate_left; (focus (intro w hSw; ((have q := hSw.cell k3)); go_simp; first | done | with_reducible rfl)); try simp only [Act.put, zB, zC, zD])
      (refine aC [6] (i := 2) (oi := ⟨some 68, _, _, _, _, _⟩) (v := ?_) rfl ?_ hHeld ?_; rotate_left; (focus (intro w hSw; (((have q := hSw.cell r0); (have qq := hSw.cell r1); (have qqq := hSw.cell r2))); go_simp; first | done | with_reducible rfl)); try simp only [Act.put, zB, zC, zD])
      refine wpAnyC_one (i := 3) (oi := ⟨some 69, _, _, _, _, _⟩) rfl (by kernel_rfl) (by decide) (fun K hK => ?_)
      rw [if_pos (by rfl)]
      go_simp
      refine (needs_any _ ⟨key, val, number⟩ (.slice a8 val.length c8) (Bs.ext huB hHeld) (by have := hwok.key; simp only at this ⊢; omega) (by simp only; omega) (by unfold S6.lastN at hn; simp only; omega)).mono ?_
      rintro e wC ⟨rfl, hxC⟩
      rw [<- HNP2.out]
      have hHeld2 := hHeld.trans hxC
      clear hHeld
      have hHeld := hHeld2
      clear hHeld2 hxC
      have hbC := (Below.block (B := wB.heap.size) hHeld q3 (blk_lt hbB)).trans hbB
      have s3 : wC.cell? ⟨q3, 3, none⟩ = some (.int .i64 (D1 : Int)) := (blk_cell hbC 3).trans rfl
      have s3f := blk_free hbC 3
      refine hK.out _ _ hHeld ?_
      clear hK K
      try simp only [Act.put, zB, zC, zD]
      (refine aC [6] (i := 4) (oi := ⟨some 70, _, _, _, _, _⟩) (v := ?_) rfl ?_ hHeld ?_; rotate_left; (focus (intro w hSw; (skip); go_simp; first | done | with_reducible rfl)); try simp only [Act.put, zB, zC, zD])
      (refine aC [6] (i := 5) (oi := ⟨some 71, _, _, _, _, _⟩) (v := ?_) rfl ?_ hHeld ?_; rotate_left; (focus (intro w hSw; (skip); go_simp; first | done | with_reducible rfl)); try simp only [Act.put, zB, zC, zD])
      refine wpAnyC_c (oi := ⟨none, _, _, _, _, _⟩) rfl (by kernel_rfl) (fun K hK => ?_)
      rw [if_pos (by rfl)]
      go_simp
      refine hK.out _ _ ?_
      clear hK K
      try simp only [Act.put, zB, zC, zD]
      refine wpAny_done (by kernel_rfl) ?_ _
      clear hHX
      have hbD := blk_set hbC 3 (.int .i64 (D2 : Int))
      have sD1 : (wC.setCell ⟨q3, 3, none⟩ (.int .i64 (D2 : Int))).cell? ⟨q3, 1, none⟩ = some (.int .i64 (N1 : Int)) := (blk_cell hbD 1).trans rfl
      have sD1f := blk_free hbD 1
      have hbE : ((wC.setCell ⟨q3, 3, none⟩ (.int .i64 (D2 : Int))).setCell ⟨q3, 1, none⟩ (.int .i64 (N2 : Int))).heap[q3]? = some (.cells [.slice aA (S6.put x ⟨key, val, number⟩).length cA, .int .i64 (N2 : Int), .int .u64 (m : Int), .int .i64 (D2 : Int)].toArray 87 (0, 0)) := blk_set hbD 1 _
      have hmE : Mod (fun z => z = q3) wB ((wC.setCell ⟨q3, 3, none⟩ (.int .i64 (D2 : Int))).setCell ⟨q3, 1, none⟩ (.int .i64 (N2 : Int))) := Mod.trans (F := fun z => z = q3) (G := fun z => z = q3) (Mod.trans (F := fun z => z = q3) (G := fun z => z = q3) (Mod.of_ext hHeld) (Mod.setCell _ ⟨q3, 3, none⟩ _ rfl) (fun _ _ h => h)) (Mod.setCell _ ⟨q3, 1, none⟩ _ rfl) (fun _ _ h => h)
      have HBE := qh hbE
      have HME := qh hmE
      clear hbE hmE hbD hbC hHeld s3 s3f
      go_wp2_with fail
      refine ⟨⟨k + 1, S6.put x ⟨key, val, number⟩, .slice aA (S6.put x ⟨key, val, number⟩).length cA, N2, D2, by omega, by go_num, ?_⟩, by simp [intOf]; omega⟩
      refine ⟨Mod.trans (F := fun z => z = q3) (G := fun z => z = q3) HMB.out HME.out (fun _ _ h => h), G1.out, G2.out, HBE.out, ?_, S6.put_ok HOX.out _, by rw [S6.put_flat HOX.out, HFL.out]; simp⟩
      exact (HIB.out.keeps (HME.out.mono (fun z hz hY => HYQ.out wB (by rw [<- hz]; exact hY)))).mono (fun z hz => New.mono HME.out.size z hz)
  ·obtain rfl : k = ws.length := by omega
   have hb := hA.out.blk
   have hz := blk_mod HB4.out hA.out.mod (show ¬ (q3 + 1 = q3) by omega)
   obtain ⟨_, xva, xvc, rfl, _⟩ := hA.out.idx.shape
   have c2 : wr.cell? ⟨q3, 2, none⟩ = some (.int .u64 (m : Int)) := (blk_cell hb 2).trans rfl
   have c2f := blk_free hb 2
   obtain ⟨M, hM⟩ : ∃ M : Nat, M = max m number := ⟨_, rfl⟩
   have hMi : max (m : Int) (number : Int) = (M : Int) := by rw [hM]; omega
   have hb2 := blk_set hb 2 (.int .u64 (M : Int))
   have e0 : (wr.setCell ⟨q3, 2, none⟩ (.int .u64 (M : Int))).cell? ⟨q3, 0, none⟩ = some (.slice xva x.length xvc) := (blk_cell hb2 0).trans rfl
   have e1 : (wr.setCell ⟨q3, 2, none⟩ (.int .u64 (M : Int))).cell? ⟨q3, 1, none⟩ = some (.int .i64 (n : Int)) := (blk_cell hb2 1).trans rfl
   have e2 : (wr.setCell ⟨q3, 2, none⟩ (.int .u64 (M : Int))).cell? ⟨q3, 2, none⟩ = some (.int .u64 (M : Int)) := (blk_cell hb2 2).trans rfl
   have e3 : (wr.setCell ⟨q3, 2, none⟩ (.int .u64 (M : Int))).cell? ⟨q3, 3, none⟩ = some (.int .i64 (nd : Int)) := (blk_cell hb2 3).trans rfl
   have hm2 := Mod.setCell (F := fun z => z = q3) wr ⟨q3, 2, none⟩ (.int .u64 (M : Int)) rfl
   have hz2 := blk_mod hz hm2 (show ¬ (q3 + 1 = q3) by omega)
   have HM := qh hM
   clear hM
   go_upto_region 16 with fail
   obtain ⟨wy, hwy⟩ : ∃ wy, wy = wr.setCell ⟨q3, 2, none⟩ (.int .u64 (M : Int)) := ⟨_, rfl⟩
   rw [<- hwy] at e0 e1 e2 e3 hm2 hz2 ⊢
   clear hwy
   have hm3 := mod_setCells (fun z => z = q3 + 1) wy (q3 + 1) 0 [.slice xva x.length xvc, .int .i64 (n : Int), .int .u64 (M : Int), .int .i64 (nd : Int)] rfl
   have hz3 := blk_setCells (q3 + 1) 87 [.slice xva x.length xvc, .int .i64 (n : Int), .int .u64 (M : Int), .int .i64 (nd : Int)] 0 wy _ hz2 (by simp)
   go_wp2_with (first
    | ((with_reducible show wpList _ _ _ (⟨none, Op.store _ _ _, _, _, _, _⟩ :: _) _ _); refine wpList_store_mid rfl 87 _ _ rfl (q3 + 1) 0 #[.slice xva x.length xvc, .int .i64 (n : Int), .int .u64 (M : Int), .int .i64 (nd : Int)] (by rfl) (by rfl) (there_blk hz2 0 4 (by simp)) (by kernel_rfl) (by simp [Value.oneCell']) ?_)
    | fail)
   have hz4 : (wy.setCells (q3 + 1) 0 [.slice xva x.length xvc, .int .i64 (n : Int), .int .u64 (M : Int), .int .i64 (nd : Int)]).heap[q3 + 1]? = some (.cells #[.slice xva x.length xvc, .int .i64 (n : Int), .int .u64 (M : Int), .int .i64 (nd : Int)] 87 (0, 0)) := by rw [hz3]; simp
   refine bodyPost_ret_by (results_cell_row (p := 6) (ty := 87) rfl _ _ (q3 + 1) 87 #[.slice xva x.length xvc, .int .i64 (n : Int), .int .u64 (M : Int), .int .i64 (nd : Int)] _ _ (by rfl) hz4 Tryz.underlying87 rfl (by kernel_rfl)) rfl ?_
   have hmE : Mod (fun z => z = q3 ∨ z = q3 + 1) wr (wy.setCells (q3 + 1) 0 [.slice xva x.length xvc, .int .i64 (n : Int), .int .u64 (M : Int), .int .i64 (nd : Int)]) := Mod.trans (hm2.mono (fun z hz => .inl hz)) hm3 (fun z _ hz => .inr hz)
   have hxE := Mod.ext (Mod.ext HXW.out hA.out.mod (fun z hz => by have := HQ3.out; omega)) hmE (fun z hz => by have := HQ3.out; omega)
   refine ⟨.slice xva x.length xvc, x, n, nd, by rw [<- HM.out], hA.out.nn, hA.out.dd, ?_, hA.out.ok, by rw [hA.out.fl, List.take_length], hxE⟩
   refine (hA.out.idx.keeps (hmE.mono (fun z hz hY => ?_))).mono (fun z hz => hz.imp id (fun h => ⟨by have := HXW.out.size; omega, Nat.lt_of_lt_of_le h.2 hmE.size⟩))
   rcases hz with rfl | rfl
   ·exact HYQ.out wr hY
   ·rcases hY with hY | hY
    ·have := hZw _ hY; have := HQ3.out; omega
    ·omega
end Go.Proofs.YtnjfioikpajhlaaGreat
