/- The walk of jetwaylaw04.DiskPlays: every row of writes, reads, flushes, fuses and restarts is answered, and leaves each sector, just as the document says. -/
import Derived.Test.YtmlancmcgcjodaaPlayLay
namespace Go.Proofs.Ytmlancmcgcjodaa
open Go.RowKit

theorem play_any {w0 w : World} {X : Nat → Prop} {p : Nat} {d : D.Dsk} {r : Ref4} {sv wv : Value} (h : Held w0 w X p d) (hr : RefAt w X r sv wv) (hrel : Rel d r) (hlen : R4.len r ≤ 900000) (kind i n : Int) (dv kv : Value) (data : List UInt8) (keep : List Bool)
    (hb : Bs w dv data) (hbX : data = [] ∨ ∀ k, dv.ownBlock = some k → X k) (hdl : data.length ≤ 140737488351232) (hk : Reads w kv (keep.map Value.bool)) (hkX : keep = [] ∨ ∀ k, kv.ownBlock = some k → X k) (hkl : keep.length ≤ 140737488351232) (hn : n ≤ 9223372036854775807) :
    Calls Try.prog 24 #[.pointer (some ⟨p, 0, none⟩), rv r sv wv, .agg #[.int .i64 kind, .int .i64 i, .int .i64 n, dv, kv]] w fun e w' => PlayOut w0 w w' X (R4.len r) e := by
  obtain ⟨da, dc, rfl⟩ := hb.shape
  obtain ⟨ka, kc, rfl⟩ := hk.shape
  by_cases h0 : kind < 0 ∨ 8 < kind
  · exact play_other h hr hrel hlen kind i n _ _ _ _ _ _ h0
  · obtain ⟨m, rfl⟩ := Int.eq_ofNat_of_zero_le (by omega : 0 ≤ kind)
    have hm : m ≤ 8 := by omega
    match m, hm with
    | 0, _ => exact play_lay0 h hr hrel hlen i n _ _ _ _ _ _ data hb hbX hdl
    | 1, _ => exact play_lay1 h hr hrel hlen i n _ _ _ _ _ _ data hb hbX hdl
    | 2, _ => exact play_reads h hr hrel hlen i n _ _ _ _ _ _
    | 3, _ => exact play_flush h hr hrel hlen i n _ _ _ _ _ _
    | 4, _ => exact play_fuse h hr hrel hlen i n _ _ _ _ _ _ hn
    | 5, _ => exact play_cut h hr hrel hlen i n _ _ _ _ _ _
    | 6, _ => exact play_restart h hr hrel hlen i n _ _ _ _ _ _ keep hk hkX hkl
    | 7, _ => exact play_clone h hr hrel hlen i n _ _ _ _ _ _
    | 8, _ => exact play_c8 h hr hrel hlen i n _ _ _ _ _ _

set_option maxRecDepth 100000 in
set_option maxHeartbeats 1600000 in
theorem diskPlays_bad (n : Int) (sv : Value) (l : List Act4) (w : World) (hs : ActsIn w sv l) (hl : l.length ≤ 200) (hn : n < 1 ∨ 4096 < n) :
    Calls Try.prog 7 #[.int .i64 n, sv] w fun e w' => e = .returned (.bool true) ∧ Ext w w' := by
  obtain ⟨a, cap, rfl, _⟩ := hs.shape
  have hli : ¬ (200 : Int) < (l.length : Int) := by omega
  clear hs hl
  by_cases h1 : n < 1
  · go_enter Try.func7, Try.ntmps7
    go_wp2_with fail
    refine (awake4 w).mono ?_
    rintro e w1 ⟨rfl, hx1⟩
    have HX1 := Lib.hid hx1
    clear hx1
    go_wp2_with fail
    refine (disk_new_bad n w1 hn).mono ?_
    rintro e w2 ⟨rfl, rfl⟩
    go_wp2
    go_ret
    exact ⟨rfl, HX1.out⟩
  · have h2 : 4096 < n := by omega
    go_enter Try.func7, Try.ntmps7
    go_wp2_with fail
    refine (awake4 w).mono ?_
    rintro e w1 ⟨rfl, hx1⟩
    have HX1 := Lib.hid hx1
    clear hx1
    go_wp2_with fail
    refine (disk_new_bad n w1 hn).mono ?_
    rintro e w2 ⟨rfl, rfl⟩
    go_wp2
    go_ret
    exact ⟨rfl, HX1.out⟩

set_option maxRecDepth 100000 in
set_option maxHeartbeats 3200000 in
theorem diskPlays_core (n : Int) (sv : Value) (l : List Act4) (w : World) (hs : ActsIn w sv l) (hl : l.length ≤ 200) (hn1 : 1 ≤ n) (hn2 : n ≤ 4096) (hsz : ∀ x ∈ l, x.data.length ≤ 140737488351232 ∧ x.keep.length ≤ 140737488351232) :
    Calls Try.prog 7 #[.int .i64 n, sv] w fun e w' => e = .returned (.bool true) ∧ Ext w w' := by
  obtain ⟨a, cap, rfl, _⟩ := hs.shape
  have hli : ¬ (200 : Int) < (l.length : Int) := by omega
  have hni1 : ¬ n < 1 := by omega
  have hni2 : ¬ 4096 < n := by omega
  have HS := Lib.hid hs
  have HSZ := Lib.hid hsz
  clear hs hsz
  go_enter Try.func7, Try.ntmps7
  go_wp2_with fail
  refine (awake4 w).mono ?_
  rintro e w1 ⟨rfl, hx1⟩
  have HX1 := Lib.hid hx1
  clear hx1
  go_wp2_with fail
  refine (held_new n w1 hn1 hn2).mono ?_
  rintro e w2 ⟨rfl, H⟩
  generalize w1.heap.size + 1 = p at *
  have hbx := Ext.of_alloc w2 (.cells #[.int .i64 n, .slice none 0 0, .slice none 0 0, .bool false, .bool false, .int .i64 0] 51)
  have hbox := one_box w2 #[.int .i64 n, .slice none 0 0, .slice none 0 0, .bool false, .bool false, .int .i64 0] 51 (Ext.refl _)
  have hall := H.all hbx
  have hXm : New (fun k => k < w1.heap.size) w2 (w2.alloc (.cells #[.int .i64 n, .slice none 0 0, .slice none 0 0, .bool false, .bool false, .int .i64 0] 51)) w2.heap.size := .inr ⟨Nat.le_refl _, by simp⟩
  have hr0 : RefAt (w2.alloc (.cells #[.int .i64 n, .slice none 0 0, .slice none 0 0, .bool false, .bool false, .int .i64 0] 51)) (New (fun k => k < w1.heap.size) w2 (w2.alloc (.cells #[.int .i64 n, .slice none 0 0, .slice none 0 0, .bool false, .bool false, .int .i64 0] 51))) ⟨n, [], [], false, false, 0⟩ (.slice none 0 0) (.slice none 0 0) :=
    ⟨RowIn.nil _, RowIn.nil _, fun k hk => by simp [Value.ownBlock] at hk, fun k hk => by simp [Value.ownBlock] at hk⟩
  have hm0 := H.ext.size
  have ht := tells4 hall hr0 (Rel.fresh n)
  unfold rv at ht
  simp only at ht
  have HT := Lib.hid ht
  clear ht H
  go_wp2_with fail
  generalize w2.alloc (.cells #[.int .i64 n, .slice none 0 0, .slice none 0 0, .bool false, .bool false, .int .i64 0] 51) = w3 at *
  generalize New (fun k => k < w1.heap.size) w2 w3 = X0 at *
  generalize w2.heap.size = mb at *
  refine HT.out.mono ?_
  clear HT
  rintro e w4 ⟨rfl, hx4⟩
  have HH := Lib.hid (hall.after_ext hx4)
  have HR := Lib.hid (hr0.ext hx4)
  have HBX := Lib.hid (blk_mod (F := fun _ => False) hbox (Mod.of_ext hx4) (fun h => h))
  have HXM := Lib.hid hXm
  have HMB := Lib.hid hm0
  clear hbx hbox hall hXm hr0 hx4 hm0
  go_wp2
  go_loopw [5, 8] (fun dv iv wr => ∃ k p d, ∃ r : Ref4, ∃ (qa va : Option Addr) (qs qc vs vc : Nat) (X : Nat → Prop), k ≤ l.length ∧ dv = .pointer (some ⟨p, 0, none⟩) ∧ iv = .int .i64 (k : Nat) ∧ Hid (Held w1 wr X p d) ∧ Hid (RefAt wr X r (.slice qa qs qc) (.slice va vs vc)) ∧ Hid (Rel d r) ∧ Hid (R4.len r ≤ k) ∧ Hid (X mb) ∧
    Hid (wr.heap[mb]? = some (.cells #[.int .i64 r.n, .slice qa qs qc, .slice va vs vc, .bool r.armed, .bool r.down, .int .i64 r.after] 51 (0, 0)))) (fun _ iv _ => l.length - (intOf iv).toNat)
  case atStart => exact ⟨0, p, _, ⟨n, [], [], false, false, 0⟩, none, none, 0, 0, 0, 0, X0, by omega, rfl, rfl, HH, HR, Rel.fresh n, by show R4.len _ ≤ 0; exact Nat.le_refl _, HXM, HBX⟩
  case round =>
    obtain ⟨k, p, d, r, qa, va, qs, qc, vs, vc, X, hk, rfl, rfl, hH, hR, hrl, hln, hXM, hB⟩ := hrel
    clear HH HR HBX HXM
    have HXM := hXM
    have HBM := hB
    clear hXM hB
    by_cases hlt : k < l.length
    · have hlti : (k : Int) < (l.length : Int) := by omega
      obtain ⟨b, off, rfl, hact⟩ := HS.out.at k hlt
      have hxz := HSZ.out l[k] (List.getElem_mem hlt)
      generalize l[k] = x at *
      obtain ⟨dv, kv, e0, e1, e2, e3, e4, hb5, hk6, hw1, hw2⟩ := hact
      have hbX : x.data = [] ∨ ∀ q, dv.ownBlock = some q → X q := hb5.block_lt.imp (fun e => List.map_eq_nil_iff.1 e) (fun hq q e => hH.out.old q (Nat.lt_of_lt_of_le (hq q e) HX1.out.size))
      have hkX : x.keep = [] ∨ ∀ q, kv.ownBlock = some q → X q := hk6.block_lt.imp (fun e => List.map_eq_nil_iff.1 e) (fun hq q e => hH.out.old q (Nat.lt_of_lt_of_le (hq q e) HX1.out.size))
      have hxr := HX1.out.trans hH.out.ext
      replace e0 := hxr.cell e0
      replace e1 := hxr.cell e1
      replace e2 := hxr.cell e2
      replace e3 := hxr.cell e3
      replace e4 := hxr.cell e4
      obtain ⟨da, dc, rfl⟩ := hb5.shape
      obtain ⟨ka, kc, rfl⟩ : ∃ ka kc, kv = .slice ka x.keep.length kc := by
        obtain ⟨a, c, e⟩ := hk6.shape
        rw [List.length_map] at e
        exact ⟨a, c, e⟩
      have hxd := Ext.of_drew wr
      have hC := play_any (hH.out.after_ext hxd) (hR.out.ext hxd) hrl.out (Nat.le_trans hln.out (by omega)) x.kind x.i x.n _ _ x.data x.keep (hb5.ext (hxr.trans hxd)) hbX hxz.1 (hk6.ext (hxr.trans hxd)) hkX hxz.2 (wf_i64 hw2).2
      obtain ⟨rn, rS, rW, rr, rd, rf⟩ := r
      unfold rv at hC
      simp only at hC HBM
      have HC := Lib.hid hC
      have HLN := hln
      obtain ⟨c0, c1, c2, c3, c4, c5, _⟩ := box_facts HBM.out
      clear hC hb5 hk6 hbX hkX hxz hw1 hw2 hH hR hrl hln
      replace HBM := Lib.hid (blk_mod (F := fun _ => False) HBM.out (Mod.of_ext hxd) (fun h => h))
      go_wp2_with fail
      have hHeld := hxd
      refine wp_region_C (fun w' => Ext wr w') 6 (by kernel_rfl) ?_
      generalize wr.drew = wz at *
      (refine wpAnyC_take [6] (i := 0) (oi := ⟨some 49, _, _, _, _, _⟩) (v := ?_) rfl (by kernel_rfl) (by kernel_rfl) (by kernel_rfl) (by kernel_rfl) (fun _ _ _ h => h) (Or.inl ⟨by rfl, ?_⟩) hHeld ?_; rotate_left; (focus (intro w hSw; (skip); go_simp; first | done | with_reducible rfl)); try simp only [Act.put, List.setIfInBounds_toArray, List.set_cons_zero, List.set_cons_succ])
      (refine wpAnyC_take [6] (i := 1) (oi := ⟨some 50, _, _, _, _, _⟩) (v := ?_) rfl (by kernel_rfl) (by kernel_rfl) (by kernel_rfl) (by kernel_rfl) (fun _ _ _ h => h) (Or.inl ⟨by rfl, ?_⟩) hHeld ?_; rotate_left; (focus (intro w hSw; (have q0 := hSw.cell c0; have q1 := hSw.cell c1; have q2 := hSw.cell c2; have q3 := hSw.cell c3; have q4 := hSw.cell c4; have q5 := hSw.cell c5); go_simp; first | done | with_reducible rfl)); try simp only [Act.put, List.setIfInBounds_toArray, List.set_cons_zero, List.set_cons_succ])
      (refine wpAnyC_take [4, 5, 6] (i := 2) (oi := ⟨some 51, _, _, _, _, _⟩) (v := ?_) rfl (by kernel_rfl) (by kernel_rfl) (by kernel_rfl) (by kernel_rfl) (fun _ _ _ h => h) (Or.inl ⟨by rfl, ?_⟩) hHeld ?_; rotate_left; (focus (intro w hSw; (skip); go_simp; first | done | with_reducible rfl)); try simp only [Act.put, List.setIfInBounds_toArray, List.set_cons_zero, List.set_cons_succ])
      (refine wpAnyC_take [4, 5, 6] (i := 3) (oi := ⟨some 52, _, _, _, _, _⟩) (v := ?_) rfl (by kernel_rfl) (by kernel_rfl) (by kernel_rfl) (by kernel_rfl) (fun _ _ _ h => h) (Or.inl ⟨by rfl, ?_⟩) hHeld ?_; rotate_left; (focus (intro w hSw; (skip); go_simp; first | done | with_reducible rfl)); try simp only [Act.put, List.setIfInBounds_toArray, List.set_cons_zero, List.set_cons_succ])
      (refine wpAnyC_take [5, 6] (i := 4) (oi := ⟨some 53, _, _, _, _, _⟩) (v := ?_) rfl (by kernel_rfl) (by kernel_rfl) (by kernel_rfl) (by kernel_rfl) (fun _ _ _ h => h) (Or.inl ⟨by rfl, ?_⟩) hHeld ?_; rotate_left; (focus (intro w hSw; (skip); go_simp; first | done | with_reducible rfl)); try simp only [Act.put, List.setIfInBounds_toArray, List.set_cons_zero, List.set_cons_succ])
      (refine wpAnyC_take [6] (i := 5) (oi := ⟨some 54, _, _, _, _, _⟩) (v := ?_) rfl (by kernel_rfl) (by kernel_rfl) (by kernel_rfl) (by kernel_rfl) (fun _ _ _ h => h) (Or.inl ⟨by rfl, ?_⟩) hHeld ?_; rotate_left; (focus (intro w hSw; (have q0 := hSw.cell e0; have q1 := hSw.cell e1; have q2 := hSw.cell e2; have q3 := hSw.cell e3; have q4 := hSw.cell e4); go_simp; first | done | with_reducible rfl)); try simp only [Act.put, List.setIfInBounds_toArray, List.set_cons_zero, List.set_cons_succ])
      refine wpAnyC_c (oi := ⟨some 55, _, _, _, _, _⟩) rfl (by kernel_rfl) (fun K hK => ?_)
      rw [if_pos (by rfl)]
      go_simp
      refine HC.out.mono ?_
      clear HC
      rintro e w4 ⟨p', d', r', sv', wv', rfl, pe⟩
      refine hK.out _ _ ?_
      clear hK K
      try simp only [Act.put, List.setIfInBounds_toArray, List.set_cons_zero, List.set_cons_succ]
      obtain ⟨Y, hH, hR, hsub⟩ := pe.got
      have hbm := blk_mod HBM.out pe.kp (fun hn => hn HXM.out)
      have hrl := pe.rel
      have hln := pe.len
      clear pe
      obtain ⟨qa, qs, qc, hsv⟩ := hR.safe.any
      obtain ⟨va, vs, vc, hwv⟩ := hR.wait.any
      subst hsv
      subst hwv
      obtain ⟨qn, qS, qW, qr, qd, qf⟩ := r'
      unfold rv
      simp only
      obtain ⟨d0, d1, d2, d3, d4, d5, g0, g1, g2, g3, g4, g5⟩ := box_facts hbm
      (refine wpAny_take (i := 7) (oi := ⟨some 48, _, _, _, _, _⟩) (v := ?_) rfl (by kernel_rfl) (by kernel_rfl) (by kernel_rfl) (fun _ _ _ h => h) (Or.inl ⟨by rfl, ?_⟩) ?_; rotate_left; (focus (intro w; go_simp; first | done | with_reducible rfl)); try simp only [Act.put, List.setIfInBounds_toArray, List.set_cons_zero, List.set_cons_succ])
      (refine wpAny_take (i := 8) (oi := ⟨some 56, _, _, _, _, _⟩) (v := ?_) rfl (by kernel_rfl) (by kernel_rfl) (by kernel_rfl) (fun _ _ _ h => h) (Or.inl ⟨by rfl, ?_⟩) ?_; rotate_left; (focus (intro w; go_simp; first | done | with_reducible rfl)); try simp only [Act.put, List.setIfInBounds_toArray, List.set_cons_zero, List.set_cons_succ])
      (refine wpAny_take (i := 9) (oi := ⟨some 57, _, _, _, _, _⟩) (v := ?_) rfl (by kernel_rfl) (by kernel_rfl) (by kernel_rfl) (fun _ _ _ h => h) (Or.inl ⟨by rfl, ?_⟩) ?_; rotate_left; (focus (intro w; go_simp; first | done | with_reducible rfl)); try simp only [Act.put, List.setIfInBounds_toArray, List.set_cons_zero, List.set_cons_succ])
      (refine wpAny_take (i := 10) (oi := ⟨some 58, _, _, _, _, _⟩) (v := ?_) rfl (by kernel_rfl) (by kernel_rfl) (by kernel_rfl) (fun _ _ _ h => h) (Or.inl ⟨by rfl, ?_⟩) ?_; rotate_left; (focus (intro w; go_simp; first | done | with_reducible rfl)); try simp only [Act.put, List.setIfInBounds_toArray, List.set_cons_zero, List.set_cons_succ])
      (refine wpAny_take (i := 11) (oi := ⟨some 5, _, _, _, _, _⟩) (v := ?_) rfl (by kernel_rfl) (by kernel_rfl) (by kernel_rfl) (fun _ _ _ h => h) (Or.inl ⟨by rfl, ?_⟩) ?_; rotate_left; (focus (intro w; go_simp; first | done | with_reducible rfl)); try simp only [Act.put, List.setIfInBounds_toArray, List.set_cons_zero, List.set_cons_succ])
      refine wpAny_one (i := 12) (oi := ⟨none, _, _, _, _, _⟩) rfl (by kernel_rfl) (fun K hK => ?_)
      rw [if_pos (by rfl)]
      go_simp
      have hm9 := mod_setCells (fun k => k = mb) w4 mb 0 [.int .i64 qn, .slice qa qs qc, .slice va vs vc, .bool qr, .bool qd, .int .i64 qf] rfl
      have hb9 := blk_setCells mb 51 [.int .i64 qn, .slice qa qs qc, .slice va vs vc, .bool qr, .bool qd, .int .i64 qf] 0 w4 _ hbm (by simp)
      show K _ (w4.setCells mb 0 [.int .i64 qn, .slice qa qs qc, .slice va vs vc, .bool qr, .bool qd, .int .i64 qf])
      generalize w4.setCells mb 0 [.int .i64 qn, .slice qa qs qc, .slice va vs vc, .bool qr, .bool qd, .int .i64 qf] = w9 at *
      refine hK.out _ _ ?_
      clear hK K
      try simp only [Act.put, List.setIfInBounds_toArray, List.set_cons_zero, List.set_cons_succ]
      (refine wpAny_take (i := 13) (oi := ⟨some 9, _, _, _, _, _⟩) (v := ?_) rfl (by kernel_rfl) (by kernel_rfl) (by kernel_rfl) (fun _ _ _ h => h) (Or.inl ⟨by rfl, ?_⟩) ?_; rotate_left; (focus (intro w; go_simp; first | done | with_reducible rfl)); try simp only [Act.put, List.setIfInBounds_toArray, List.set_cons_zero, List.set_cons_succ])
      refine wpAny_done (by kernel_rfl) ?_ _
      have HH2 := Lib.hid (hH.mod_in (b := mb) (hsub _ HXM.out) HMB.out hm9)
      have HR2 := Lib.hid (hR.store hbm hm9)
      have HX2 := Lib.hid (hsub _ HXM.out)
      have HRL := Lib.hid hrl
      have HLN2 := Lib.hid (show R4.len ⟨qn, qS, qW, qr, qd, qf⟩ ≤ k + 1 from Nat.le_trans hln (Nat.succ_le_succ HLN.out))
      have HB9 := Lib.hid hb9
      have ht := fun w' (hx : Ext w9 w') => tells4 (HH2.out.after_ext hx) (HR2.out.ext hx) HRL.out
      have hrd := fun w' (hx : Ext w9 w') => reads4 (HH2.out.after_ext hx) (HR2.out.ext hx) HRL.out (n - 1)
      unfold rv at ht hrd
      simp only at ht hrd
      have HT := Lib.hid ht
      have HRD := Lib.hid hrd
      clear d0 d1 d2 d3 d4 d5 g0 g1 g2 g3 g4 g5 c0 c1 c2 c3 c4 c5 e0 e1 e2 e3 e4 hm9 hb9 hbm hH hR hrl hln ht hrd hHeld hxd hxr
      obtain ⟨c0, c1, c2, c3, c4, c5, _⟩ := box_facts HB9.out
      go_wp2_with fail
      refine (HT.out w9 (Ext.refl _)).mono ?_
      rintro e wa ⟨rfl, hxa⟩
      have d0 := hxa.cell c0
      have d1 := hxa.cell c1
      have d2 := hxa.cell c2
      have d3 := hxa.cell c3
      have d4 := hxa.cell c4
      have d5 := hxa.cell c5
      go_wp2_with fail
      refine (HRD.out wa hxa).mono ?_
      rintro e wb ⟨rfl, hxb⟩
      have hxab := hxa.trans hxb
      have HH3 := Lib.hid (HH2.out.after_ext hxab)
      have HR3 := Lib.hid (HR2.out.ext hxab)
      have HB3 := Lib.hid (blk_mod (F := fun _ => False) HB9.out (Mod.of_ext hxab) (fun h => h))
      clear hxa hxb hxab d0 d1 d2 d3 d4 d5 c0 c1 c2 c3 c4 c5 HH2 HR2 HB9 HT HRD
      go_wp2
      go_roundw
      case rel => exact ⟨k + 1, p', d', ⟨qn, qS, qW, qr, qd, qf⟩, _, _, _, _, _, _, Y, by omega, rfl, by go_num, HH3, HR3, HRL, HLN2, HX2, HB3⟩
      case measure => (simp [intOf]; try omega)
    · have HXF := Lib.hid (HX1.out.trans hH.out.ext)
      clear hH hR
      go_wp2
      go_ret
      exact ⟨rfl, HXF.out⟩

set_option maxRecDepth 100000 in
theorem walk_diskPlays (n : Int) (sv : Value) (l : List Act4) (w : World) (_hn : (Lit.int .i64 n).wf = true) (hs : ActsIn w sv l) (hsz : ∀ x ∈ l, x.data.length ≤ 140737488351232 ∧ x.keep.length ≤ 140737488351232) :
    Calls Try.prog 7 #[.int .i64 n, sv] w fun e w' => e = .returned (.bool true) ∧ Ext w w' := by
  by_cases hl : l.length ≤ 200
  · by_cases h1 : n < 1 ∨ 4096 < n
    · exact diskPlays_bad n sv l w hs hl h1
    · exact diskPlays_core n sv l w hs hl (by omega) (by omega) hsz
  · obtain ⟨a, cap, rfl, _⟩ := hs.shape
    have hli : (200 : Int) < (l.length : Int) := by omega
    clear hs hl hsz
    go_enter Try.func7, Try.ntmps7
    go_wp2_with fail
    refine (awake4 w).mono ?_
    rintro e w1 ⟨rfl, hx1⟩
    have HX1 := Lib.hid hx1
    clear hx1
    go_wp2
    go_ret
    exact ⟨rfl, HX1.out⟩
end Go.Proofs.Ytmlancmcgcjodaa
