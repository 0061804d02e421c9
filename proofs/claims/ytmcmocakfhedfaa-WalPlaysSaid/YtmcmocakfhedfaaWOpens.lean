/- The walk of WalOpens. (Printed by tools/mkopens.py.) -/
import Derived.Test.YtmcmocakfhedfaaForged
import Derived.Test.YtmcmocakfhedfaaSecs5
namespace Go.Proofs.Ytmcmocakfhedfaa
open Go.RowKit

theorem ext_of_keeps {w0 w w' : World} {X : Nat → Prop} (h0 : Ext w0 w) (hX : ∀ k, k < w0.heap.size → X k) (hk : Keeps X w w') : Ext w0 w' :=
  Mod.ext h0 hk (fun k hn => by
    rcases Nat.lt_or_ge k w0.heap.size with h | h
    · exact absurd (hX k h) hn
    · exact h)
theorem again_true {w0 w w' : World} {X : Nat → Prop} {p : Nat} {x : W5.Lg × Int} {B : Nat} {e : Ending} (h : AgainOut w0 w w' X p x B e) : ∃ pv r' sv' wv' lv' g cl ok, e = .returned (.tuple #[.pointer pv, lgv r' sv' wv' g lv' cl, .bool ok, .bool true]) ∧ (∃ a n c, sv' = .slice a n c) ∧ (∃ a n c, wv' = .slice a n c) ∧ (∃ a n c, lv' = .slice a n c) ∧ Keeps X w w' := by
  rcases h with ⟨_, X', q, r', sv', wv', lv', he, _, _, hl, _, hk⟩ | ⟨_, r', sv', wv', lv', g, cl, he, h1, h2, h3, hk⟩
  · obtain ⟨a, c, h3⟩ := str_shape (Reads.of_own hl.row (str_one _))
    exact ⟨_, r', sv', wv', lv', _, _, _, he, hl.at_.safe.any, hl.at_.wait.any, ⟨_, _, _, h3⟩, hk⟩
  · exact ⟨_, r', sv', wv', lv', _, _, _, he, h1, h2, h3, hk⟩

set_option maxRecDepth 100000 in
set_option maxHeartbeats 6400000 in
theorem walk_walOpens (n : Int) (sv : Value) (l : List Sec5) (w : World) (_hn : (Lit.int .i64 n).wf = true) (hs : SecsIn w sv l) :
    Calls Try.prog 6 #[.int .i64 n, sv] w fun e w' => e = .returned (.bool true) ∧ Ext w w' := by
  obtain ⟨a, cap, rfl, _⟩ := hs.shape
  have HS := Lib.hid hs
  clear hs
  by_cases hl : 60 < l.length
  · have hli : (60 : Int) < (l.length : Int) := by omega
    clear hl
    go_enter Try.func6, Try.ntmps6
    go_wp2_with fail
    refine (awake5 w).mono ?_
    rintro e w1 ⟨rfl, hx1⟩
    have HX := Lib.hid hx1
    clear hx1
    go_wp2
    go_ret
    exact ⟨rfl, HX.out⟩
  · have hli : (l.length : Int) ≤ 60 := by omega
    have hli2 : decide ((60 : Int) < (l.length : Int)) = false := decide_eq_false (by omega)
    have HLN : Hid (l.length ≤ 60) := by unfold Hid; omega
    go_enter Try.func6, Try.ntmps6
    go_wp2_with fail
    refine (awake5 w).mono ?_
    rintro e w1 ⟨rfl, hx1⟩
    have HX1 := Lib.hid hx1
    clear hx1 hl
    dsimp only
    go_wp2_with fail
    by_cases hnb : n < 1 ∨ 4096 < n
    · refine (disk_new_bad n w1 hnb).mono ?_
      rintro e w2 ⟨rfl, rfl⟩
      clear hnb
      go_wp2
      go_ret
      exact ⟨rfl, HX1.out⟩
    · refine (held_new n w1 (by omega) (by omega)).mono ?_
      rintro e w2 ⟨rfl, hh⟩
      have hn1 : 1 ≤ n := by omega
      have hn2 : n ≤ 4096 := by omega
      have HH := Lib.hid hh
      have HX2 := Lib.hid (HX1.out.trans hh.ext)
      have hs2 := hh.ext.size
      clear hnb hli2 hh
      generalize w1.heap.size + 1 = p at *
      dsimp only
      have HZ2 : Hid ((w2.alloc (.cells #[.int .i64 0, .slice none 0 0, .slice none 0 0, .bool false, .bool false, .int .i64 0] 55)).heap[w2.heap.size]? = some (.cells #[.int .i64 0, .slice none 0 0, .slice none 0 0, .bool false, .bool false, .int .i64 0] 55 (0, 0))) := heap_alloc_new w2 _
      go_upto_region 9 with (first
        | ((with_reducible show wpList _ _ _ (⟨none, Op.store _ (Operand.tmp 7) _, _, _, _, _⟩ :: _) _ _); refine wpl_store_all _ rfl 55 _ _ rfl w2.heap.size 55 [_, _, _, _, _, _] HZ2.out rfl [.int .i64 n, .slice none 0 0, .slice none 0 0, .bool false, .bool false, .int .i64 0] rfl rfl size_d4 (by simp [Value.oneCell']) ?_; intro w3 hbn hmn hszn; have HB3 := Lib.hid hbn; have HM3 := Lib.hid hmn; clear hbn hmn hszn)
        | fail)
      have HX3 := Lib.hid (HM3.out.ext (Ext.of_alloc w2 (.cells #[.int .i64 0, .slice none 0 0, .slice none 0 0, .bool false, .bool false, .int .i64 0] 55)) (fun k e => by omega))
      have HSZ := Lib.hid (show w1.heap.size ≤ w2.heap.size ∧ w2.heap.size < w3.heap.size from ⟨hs2, blk_lt HB3.out⟩)
      have HH3 := Lib.hid (HH.out.all HX3.out)
      have HXM := Lib.hid (show New (fun k => k < w1.heap.size) w2 w3 w2.heap.size from .inr ⟨Nat.le_refl _, HSZ.out.2⟩)
      have HR3 : Hid (RefAt w3 (New (fun k => k < w1.heap.size) w2 w3) ⟨n, [], [], false, false, 0⟩ (.slice none 0 0) (.slice none 0 0)) := ⟨RowIn.nil _, RowIn.nil _, fun k hk => by simp [Value.ownBlock] at hk, fun k hk => by simp [Value.ownBlock] at hk⟩
      have HSM := Lib.hid (show w1.heap.size ≤ w2.heap.size from HSZ.out.1)
      generalize New (fun k => k < w1.heap.size) w2 w3 = X3 at *
      generalize w2.heap.size = mb at *
      clear HZ2 HM3 HX3 HX2 HH HSZ hs2
      go_wp2
      go_loopw [8] (fun iv wr => ∃ (k : Nat) (X : Nat → Prop) (d : D.Dsk) (r : Ref4) (pa qa : Option Addr) (pn pc qn qc : Nat), k ≤ l.length ∧ iv = .int .i64 (k : Int) ∧ R4.len r ≤ k ∧ Hid (Held w1 wr X p d) ∧ Hid (Rel d r) ∧ Hid (RefAt wr X r (.slice pa pn pc) (.slice qa qn qc)) ∧ Hid (wr.heap[mb]? = some (.cells #[.int .i64 r.n, .slice pa pn pc, .slice qa qn qc, .bool r.armed, .bool r.down, .int .i64 r.after] 55 (0, 0))) ∧ Hid (X mb)) (fun iv _ => l.length - (intOf iv).toNat)
      case atStart => exact ⟨0, X3, D.fresh n, ⟨n, [], [], false, false, 0⟩, none, none, 0, 0, 0, 0, by omega, rfl, Nat.le_refl _, HH3, Rel.fresh n, HR3, HB3, HXM⟩
      case round =>
        obtain ⟨k, X, d, r, pa, qa, pn, pc, qn, qc, hk, rfl, hrl, hH, hRel, hR, hB, hXm⟩ := hrel
        clear HH3 HR3 HB3 HXM
        obtain ⟨c0, c1, c2, c3, c4, c5, f0, f1, f2, f3, f4, f5⟩ := box_facts hB.out
        clear f0 f1 f2 f3 f4 f5
        have hlen : R4.len r = r.safe.length + r.wait.length := rfl
        by_cases hlt : k < l.length
        · have hlti : (k : Int) < (l.length : Int) := by omega
          have hlk : k < 60 := by have := HLN.out; omega
          have hxr := HX1.out.trans hH.out.ext
          obtain ⟨b, off, rfl, hsec⟩ := HS.out.at k hlt
          generalize l[k] = x at hsec
          obtain ⟨i, at_, pc9, g, rc, kk, ps, ln, data, mask⟩ := x
          obtain ⟨dv, s0, s1, s2, s3, s4, s5, s6, s7, s8, s9, hbd, ⟨u1, u2, u3, u4, u5⟩, m0, m1⟩ := hsec
          simp only at s0 s1 s2 s3 s4 s5 s6 s7 s8 s9 hbd u1 u2 u3 u4 u5 m0 m1
          have HSI := Lib.hid (fun (v : World) (hv : Ext w v) => hv.cell s0)
          replace s0 := hxr.cell s0
          replace s1 := hxr.cell s1
          replace s2 := hxr.cell s2
          replace s3 := hxr.cell s3
          replace s4 := hxr.cell s4
          replace s5 := hxr.cell s5
          replace s6 := hxr.cell s6
          replace s7 := hxr.cell s7
          replace s8 := hxr.cell s8
          replace s9 := hxr.cell s9
          replace hbd := hbd.ext hxr
          have hF := forged_any i at_ mask pc9 g rc kk ps ln dv data wr hbd u1 u2 u3 u4 u5 m0 m1
          obtain ⟨da, dc, rfl⟩ := hbd.shape
          have HF := Lib.hid hF
          clear hF hbd u1 u2 u3 u4 u5 m0 m1
          go_wp2_with fail
          refine HF.out.mono ?_
          clear HF
          rintro e wf ⟨fv, bts, rfl, hbf, hfr, hxf⟩
          have HBF := Lib.hid hbf
          have HFR := Lib.hid hfr
          have HXF := Lib.hid hxf
          obtain ⟨fa, fc, rfl⟩ := hbf.shape
          have hHf := Lib.hid (hH.out.all hxf)
          have hRf := Lib.hid (hR.out.all hxf)
          have HBM := Lib.hid (blk_mod (F := fun _ => False) hB.out (Mod.of_ext hxf) (fun h => h))
          have HXM1 := Lib.hid (show New X wr wf mb from .inl hXm.out)
          have HFX := Lib.hid (show ∀ k, (Value.slice fa bts.length fc).ownBlock = some k → New X wr wf k ∧ k ≠ mb from fun k hk => ⟨.inr (hfr k hk), fun e => by subst e; have h1 := (hfr _ hk).1; have h2 := blk_lt hB.out; omega⟩)
          replace c0 := hxf.cell c0
          replace c1 := hxf.cell c1
          replace c2 := hxf.cell c2
          replace c3 := hxf.cell c3
          replace c4 := hxf.cell c4
          replace c5 := hxf.cell c5
          replace s0 := hxf.cell s0
          generalize New X wr wf = X1 at *
          have hbl := hbf.length_le
          generalize hbtl : bts.length = btn at *
          have HQ := Lib.hid (hRel.out.lay i bts)
          have HLN4 := Lib.hid (lay_len r i bts)
          have HC : Hid (∀ v, Ext wf v → Calls Try.prog 29 #[.agg #[.int .i64 r.n, .slice pa pn pc, .slice qa qn qc, .bool r.armed, .bool r.down, .int .i64 r.after], .int .i64 i, .string ⟨bts.toArray⟩] v fun e w' => RefOut v w' (New X1 wf v) (R4.lay r i bts).1 (R4.lay r i bts).2 e) := fun v hv => ref_lay r _ (.slice pa pn pc) (.slice qa qn qc) i bts v (hRf.out.all hv) (by omega) (by rw [hbtl]; omega)
          have hwl : d.wait.length ≤ 1073741824 := by rw [hRel.out.wait]; omega
          generalize R4.lay r i bts = RES at *
          obtain ⟨r2, k2⟩ := RES
          simp only at HC HQ HLN4
          have hHX := Ext.of_drew wf
          clear hbf hfr hxf hR hB hXm s1 s2 s3 s4 s5 s6 s7 s8 s9 hRf
          dsimp only
          go_wp2_with fail
          have hHeld := hHX
          refine wp_region_C (fun w' => Ext wf w') 8 (by kernel_rfl) ?_
          (refine wpAnyC_take [8] (i := 0) (oi := ⟨some 41, _, _, _, _, _⟩) (v := ?_) rfl (by kernel_rfl) (by kernel_rfl) (by kernel_rfl) (by kernel_rfl) (fun _ _ _ h => h) (Or.inl ⟨by rfl, ?_⟩) hHeld ?_; rotate_left; (focus (intro w hSw; ((have q0 := hSw.cell c0; have q1 := hSw.cell c1; have q2 := hSw.cell c2; have q3 := hSw.cell c3; have q4 := hSw.cell c4; have q5 := hSw.cell c5)); go_simp; first | done | with_reducible rfl)); try simp only [Act.put, List.setIfInBounds_toArray, List.set_cons_zero, List.set_cons_succ])
          (refine wpAnyC_take [3, 4, 5, 8] (i := 1) (oi := ⟨some 42, _, _, _, _, _⟩) (v := ?_) rfl (by kernel_rfl) (by kernel_rfl) (by kernel_rfl) (by kernel_rfl) (fun _ _ _ h => h) (Or.inl ⟨by rfl, ?_⟩) hHeld ?_; rotate_left; (focus (intro w hSw; (skip); go_simp; first | done | with_reducible rfl)); try simp only [Act.put, List.setIfInBounds_toArray, List.set_cons_zero, List.set_cons_succ])
          (refine wpAnyC_take [3, 4, 5, 8] (i := 2) (oi := ⟨some 43, _, _, _, _, _⟩) (v := ?_) rfl (by kernel_rfl) (by kernel_rfl) (by kernel_rfl) (by kernel_rfl) (fun _ _ _ h => h) (Or.inl ⟨by rfl, ?_⟩) hHeld ?_; rotate_left; (focus (intro w hSw; (skip); go_simp; first | done | with_reducible rfl)); try simp only [Act.put, List.setIfInBounds_toArray, List.set_cons_zero, List.set_cons_succ])
          (refine wpAnyC_take [4, 5, 8] (i := 3) (oi := ⟨some 44, _, _, _, _, _⟩) (v := ?_) rfl (by kernel_rfl) (by kernel_rfl) (by kernel_rfl) (by kernel_rfl) (fun _ _ _ h => h) (Or.inl ⟨by rfl, ?_⟩) hHeld ?_; rotate_left; (focus (intro w hSw; (skip); go_simp; first | done | with_reducible rfl)); try simp only [Act.put, List.setIfInBounds_toArray, List.set_cons_zero, List.set_cons_succ])
          (refine wpAnyC_take [5, 8] (i := 4) (oi := ⟨some 45, _, _, _, _, _⟩) (v := ?_) rfl (by kernel_rfl) (by kernel_rfl) (by kernel_rfl) (by kernel_rfl) (fun _ _ _ h => h) (Or.inl ⟨by rfl, ?_⟩) hHeld ?_; rotate_left; (focus (intro w hSw; (skip); go_simp; first | done | with_reducible rfl)); try simp only [Act.put, List.setIfInBounds_toArray, List.set_cons_zero, List.set_cons_succ])
          (refine wpAnyC_take [8] (i := 5) (oi := ⟨some 46, _, _, _, _, _⟩) (v := ?_) rfl (by kernel_rfl) (by kernel_rfl) (by kernel_rfl) (by kernel_rfl) (fun _ _ _ h => h) (Or.inl ⟨by rfl, ?_⟩) hHeld ?_; rotate_left; (focus (intro w hSw; ((have q := hSw.cell s0)); go_simp; first | done | with_reducible rfl)); try simp only [Act.put, List.setIfInBounds_toArray, List.set_cons_zero, List.set_cons_succ])
          (refine wpAnyC_take [7, 8] (i := 6) (oi := ⟨some 47, _, _, _, _, _⟩) (v := ?_) rfl (by kernel_rfl) (by kernel_rfl) (by kernel_rfl) (by kernel_rfl) (fun _ _ _ h => h) (Or.inl ⟨by rfl, ?_⟩) hHeld ?_; rotate_left; (focus (intro w hSw; (skip); go_simp; first | done | with_reducible rfl)); try simp only [Act.put, List.setIfInBounds_toArray, List.set_cons_zero, List.set_cons_succ])
          (refine wpAnyC_take [8] (i := 7) (oi := ⟨some 48, _, _, _, _, _⟩) (v := ?_) rfl (by kernel_rfl) (by kernel_rfl) (by kernel_rfl) (by kernel_rfl) (fun _ _ _ h => h) (Or.inl ⟨by rfl, ?_⟩) hHeld ?_; rotate_left; (focus (intro w hSw; ((have q := (HBF.out.ext hSw).toString (P := Try.prog) 31 9 5 Try.underlying31 Try.underlying5 Try.underlying9)); go_simp; first | done | with_reducible rfl)); try simp only [Act.put, List.setIfInBounds_toArray, List.set_cons_zero, List.set_cons_succ])
          refine wpAnyC_c (oi := ⟨some 49, _, _, _, _, _⟩) rfl (by kernel_rfl) (fun K hK => ?_)
          rw [if_pos (by rfl)]
          go_simp
          refine (HC.out _ hHeld).mono ?_
          clear HC
          rintro e w4 ⟨sv', wv', rfl, hra, hx4⟩
          unfold rv
          refine hK.out _ _ ?_
          clear hK K
          try simp only [Act.put, List.setIfInBounds_toArray, List.set_cons_zero, List.set_cons_succ]
          have HX4 := Lib.hid (hHeld.trans hx4)
          have hbx := blk_mod (F := fun _ => False) HBM.out (Mod.of_ext HX4.out) (fun h => h)
          have HRA := Lib.hid (hra.more (new_new hHeld hx4))
          clear hra hx4 hHeld hHX
          obtain ⟨xa, xn, xc, hsv⟩ := HRA.out.safe.any
          obtain ⟨ya, yn, yc, hwv⟩ := HRA.out.wait.any
          subst hsv
          subst hwv
          obtain ⟨d0, d1, d2, d3, d4, d5, g0, g1, g2, g3, g4, g5⟩ := box_facts hbx
          (refine wpAny_take (i := 9) (oi := ⟨some 40, _, _, _, _, _⟩) (v := ?_) rfl (by kernel_rfl) (by kernel_rfl) (by kernel_rfl) (fun _ _ _ h => h) (Or.inl ⟨by rfl, ?_⟩) ?_; rotate_left; (focus (intro w; go_simp; first | done | with_reducible rfl)); try simp only [Act.put, List.setIfInBounds_toArray, List.set_cons_zero, List.set_cons_succ])
          (refine wpAny_take (i := 10) (oi := ⟨some 50, _, _, _, _, _⟩) (v := ?_) rfl (by kernel_rfl) (by kernel_rfl) (by kernel_rfl) (fun _ _ _ h => h) (Or.inl ⟨by rfl, ?_⟩) ?_; rotate_left; (focus (intro w; go_simp; first | done | with_reducible rfl)); try simp only [Act.put, List.setIfInBounds_toArray, List.set_cons_zero, List.set_cons_succ])
          (refine wpAny_take (i := 11) (oi := ⟨some 51, _, _, _, _, _⟩) (v := ?_) rfl (by kernel_rfl) (by kernel_rfl) (by kernel_rfl) (fun _ _ _ h => h) (Or.inl ⟨by rfl, ?_⟩) ?_; rotate_left; (focus (intro w; go_simp; first | done | with_reducible rfl)); try simp only [Act.put, List.setIfInBounds_toArray, List.set_cons_zero, List.set_cons_succ])
          refine wpAny_one (i := 12) (oi := ⟨none, _, _, _, _, _⟩) rfl (by kernel_rfl) (fun K hK => ?_)
          rw [if_pos (by rfl)]
          go_simp
          have hm9 := mod_setCells (fun k => k = mb) w4 mb 0 [.int .i64 r2.n, .slice xa xn xc, .slice ya yn yc, .bool r2.armed, .bool r2.down, .int .i64 r2.after] rfl
          have hb9 := blk_setCells mb 55 [.int .i64 r2.n, .slice xa xn xc, .slice ya yn yc, .bool r2.armed, .bool r2.down, .int .i64 r2.after] 0 w4 _ hbx (by simp)
          show K _ (w4.setCells mb 0 [.int .i64 r2.n, .slice xa xn xc, .slice ya yn yc, .bool r2.armed, .bool r2.down, .int .i64 r2.after])
          generalize w4.setCells mb 0 [.int .i64 r2.n, .slice xa xn xc, .slice ya yn yc, .bool r2.armed, .bool r2.down, .int .i64 r2.after] = w9 at *
          refine hK.out _ _ ?_
          clear hK K
          try simp only [Act.put, List.setIfInBounds_toArray, List.set_cons_zero, List.set_cons_succ]
          (refine wpAny_take (i := 13) (oi := ⟨some 10, _, _, _, _, _⟩) (v := ?_) rfl (by kernel_rfl) (by kernel_rfl) (by kernel_rfl) (fun _ _ _ h => h) (Or.inl ⟨by rfl, ?_⟩) ?_; rotate_left; (focus (intro w; go_simp; first | done | with_reducible rfl)); try simp only [Act.put, List.setIfInBounds_toArray, List.set_cons_zero, List.set_cons_succ])
          refine wpAny_done (by kernel_rfl) ?_ _
          clear d0 d1 d2 d3 d4 d5 g0 g1 g2 g3 g4 g5
          have HH4 := Lib.hid (hHf.out.all HX4.out)
          have HH9 := Lib.hid (HH4.out.mod_all hm9 (fun k e => by subst e; exact ⟨.inl HXM1.out, HSM.out⟩))
          have HR9 := Lib.hid (((HRA.out.store5 hbx (by decide) hm9)))
          have HX9 := Lib.hid (show ∀ k, New X1 wf w4 k → New (New X1 wf w4) w4 w9 k from fun k hk => .inl hk)
          have HBS := Lib.hid (Reads.mod (HBF.out.ext HX4.out) hm9 (fun k hk e => (HFX.out k hk).2 e))
          have HSC := Lib.hid (HSI.out w9 (HX1.out.trans HH9.out.ext))
          have HR10 := Lib.hid (HR9.out.more HX9.out)
          have HXM9 := Lib.hid (HX9.out mb (.inl HXM1.out))
          have HFX9 := Lib.hid (show ∀ q, (Value.slice fa btn fc).ownBlock = some q → New (New X1 wf w4) w4 w9 q from fun q hq => HX9.out q (.inl (HFX.out q hq).1))
          have HB9 := Lib.hid hb9
          clear c0 c1 c2 c3 c4 c5 s0 hm9 hb9 hbx HX4 HRA HH4 HR9 HX9 hHf HBF HFR HXF HFX HBM HXM1 HSI
          generalize New (New X1 wf w4) w4 w9 = X9 at *
          obtain ⟨c0, c1, c2, c3, c4, c5, f0, f1, f2, f3, f4, f5⟩ := box_facts HB9.out
          have s0 := HSC.out
          clear f0 f1 f2 f3 f4 f5
          go_wp2_with fail
          refine (held_write_X HH9.out i (.slice fa btn fc) bts HBS.out HFX9.out hwl).mono ?_
          rintro e w10 ⟨rfl, hst⟩
          rw [HQ.out.2]
          have HH10 := Lib.hid hst.1
          have HR11 := Lib.hid (HR10.out.keeps hst.2)
          have HB10 := Lib.hid (blk_mod HB9.out hst.2 (fun hn => hn HXM9.out))
          have HQ1 := Lib.hid HQ.out.1
          have hl2 : R4.len r2 ≤ k + 1 := by have := HLN4.out; omega
          have hk2 : (k2 != k2) = false := by simp
          clear hst HH9 HR10 HB9 HQ HLN4 c0 c1 c2 c3 c4 c5 s0 HBS HFX9 HSC
          go_wp2
          go_roundw
          case rel => exact ⟨k + 1, X9, _, r2, _, _, _, _, _, _, by omega, by go_num, hl2, HH10, HQ1, HR11, HB10, HXM9⟩
          case measure => (simp [intOf]; try omega)
        · obtain rfl : k = l.length := by omega
          have hln := HLN.out
          have HC : Hid (Calls Try.prog 30 #[.agg #[.int .i64 r.n, .slice pa pn pc, .slice qa qn qc, .bool r.armed, .bool r.down, .int .i64 r.after]] wr fun e w' => RefOut wr w' (New X wr wr) (R4.flush r).1 (R4.flush r).2 e) := ref_flush r _ (.slice pa pn pc) (.slice qa qn qc) wr (hR.out.more (fun k hk => .inl hk)) (by omega)
          have HQ := Lib.hid (hRel.out.flush)
          have hlf := flush_len r
          generalize R4.flush r = RES at *
          obtain ⟨r2, k2⟩ := RES
          simp only at HC HQ hlf
          have hl2 : R4.len r2 ≤ 700000 := by omega
          clear hlf hrl hlen hk hlt hR hRel
          go_wp2_with fail
          refine HC.out.mono ?_
          clear HC
          rintro e w4 ⟨sv', wv', rfl, hra, hx4⟩
          unfold rv
          have HRA := Lib.hid hra
          obtain ⟨xa, xn, xc, hsv⟩ := hra.safe.any
          obtain ⟨ya, yn, yc, hwv⟩ := hra.wait.any
          subst hsv
          subst hwv
          have HX4 := Lib.hid hx4
          have HH4 := Lib.hid (hH.out.all hx4)
          have HB4 := Lib.hid (blk_mod (F := fun _ => False) hB.out (Mod.of_ext hx4) (fun h => h))
          have HXM4 := Lib.hid (show New X wr w4 mb from .inl hXm.out)
          have HR4 := Lib.hid (hra.more (fun q hq => (show New X wr w4 q from hq.elim (fun h => h.elim .inl (fun h => absurd h.2 (by omega))) .inr)))
          clear hra hx4 hH hB hXm HRA HX4 c0 c1 c2 c3 c4 c5
          generalize New X wr w4 = X4 at *
          go_upto_region 18 with (first
            | ((with_reducible show wpList _ _ _ (⟨none, Op.store _ (Operand.tmp 7) _, _, _, _, _⟩ :: _) _ _); refine wpl_store_all _ rfl 55 _ _ rfl mb 55 [_, _, _, _, _, _] HB4.out rfl [.int .i64 r2.n, .slice xa xn xc, .slice ya yn yc, .bool r2.armed, .bool r2.down, .int .i64 r2.after] rfl rfl size_d4 (by simp [Value.oneCell']) ?_; intro w5 hbn hmn hszn; have HB5 := Lib.hid hbn; have HM5 := Lib.hid hmn; clear hbn hmn hszn)
            | fail)
          have HH5 := Lib.hid (HH4.out.mod_all HM5.out (fun k e => by subst e; exact ⟨HXM4.out, HSM.out⟩))
          have HR5 := Lib.hid ((HR4.out.store5 HB4.out (by decide) HM5.out).more (Y := New X4 w4 w5) (fun k hk => .inl hk))
          have HXM5 := Lib.hid (show New X4 w4 w5 mb from .inl HXM4.out)
          generalize New X4 w4 w5 = X5 at *
          clear HH4 HR4 HM5 HB4 HXM4
          go_wp2_with fail
          refine (held_flush HH5.out).mono ?_
          rintro e w6 ⟨rfl, hst⟩
          have HH6 := Lib.hid hst.1
          have HR6 := Lib.hid (HR5.out.keeps hst.2)
          have HB6 := Lib.hid (blk_mod HB5.out hst.2 (fun hn => hn HXM5.out))
          have HAG := Lib.hid (again_any HH6.out HR6.out HQ.out.1 hl2 (.slice none 0 0) [] (Reads.nil w6) (.inl rfl))
          unfold rv at HAG
          have HE6 := Lib.hid HH6.out.ext
          have HO6 := Lib.hid HH6.out.old
          obtain ⟨c0, c1, c2, c3, c4, c5, f0, f1, f2, f3, f4, f5⟩ := box_facts HB6.out
          clear hst HH5 HR5 HB5 f0 f1 f2 f3 f4 f5
          dsimp only
          go_wp2_with fail
          refine HAG.out.mono ?_
          clear HAG c0 c1 c2 c3 c4 c5
          rintro e w7 hag
          obtain ⟨pv, r3, sv3, wv3, lv3, g3, cl3, ok3, rfl, ⟨ua, un, uc, hs3⟩, ⟨va, vn, vc, hs4⟩, ⟨za, zn, zc, hs5⟩, hk7⟩ := again_true hag
          subst hs3
          subst hs4
          subst hs5
          unfold lgv
          have HX7 := Lib.hid (HX1.out.trans (ext_of_keeps HE6.out HO6.out hk7))
          clear hag hk7
          have HZ8 : Hid ((w7.alloc (.cells #[.int .i64 0, .slice none 0 0, .slice none 0 0, .bool false, .bool false, .int .i64 0, .int .u32 0, .slice none 0 0, .bool false] 63)).heap[w7.heap.size]? = some (.cells #[.int .i64 0, .slice none 0 0, .slice none 0 0, .bool false, .bool false, .int .i64 0, .int .u32 0, .slice none 0 0, .bool false] 63 (0, 0))) := heap_alloc_new w7 _
          have HX8 := Lib.hid (Ext.of_alloc w7 (.cells #[.int .i64 0, .slice none 0 0, .slice none 0 0, .bool false, .bool false, .int .i64 0, .int .u32 0, .slice none 0 0, .bool false] 63))
          go_wp2_with (first
            | ((with_reducible show wpList _ _ _ (⟨none, Op.store _ (Operand.tmp 12) _, _, _, _, _⟩ :: _) _ _); refine wpl_store_all _ rfl 63 _ _ rfl w7.heap.size 63 [_, _, _, _, _, _, _, _, _] HZ8.out rfl [.int .i64 r3.n, .slice ua un uc, .slice va vn vc, .bool r3.armed, .bool r3.down, .int .i64 r3.after, .int .u32 (g3 : Int), .slice za zn zc, .bool cl3] rfl rfl size_l5 (by simp [Value.oneCell']) ?_; intro w8 hbn hmn hszn; have HX9 := Lib.hid (hmn.ext (HX7.out.trans HX8.out) (fun k e => by have := HX7.out.size; omega)); clear hbn hmn hszn)
            | fail)
          go_ret
          exact ⟨rfl, HX9.out⟩
end Go.Proofs.Ytmcmocakfhedfaa
