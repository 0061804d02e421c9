import Derived.Test.YtnjfioikpajhlaaGreatMSt3
import Derived.Test.YtnjfioikpajhlaaGreatWalU
import Derived.Deep.DeepCutAuto
set_option maxRecDepth 100000
set_option maxHeartbeats 64000000
/- The store in memory: a store over a log; Commit. -/
namespace Go.Proofs.YtnjfioikpajhlaaGreat
open Go.RowKit Go.Shelf
section
variable {w0 w w' w1 : World} {X Y Z : Nat -> Prop} {p q ql : Nat} {F : Nat -> Prop}
theorem Held.modX {d : D.Dsk} (h : Held w0 w X p d) (hm : Mod F w w') (hF : ∀ k, F k -> X k) (h0 : ∀ k, F k -> w0.heap.size <= k) : Held w0 w' X p d := by
 obtain ⟨m, wv, hd, hFP⟩ := h.inn
 exact ⟨⟨m, wv, hd.mod hm (fun k hk e => hFP k hk (hF k e)), hFP⟩, h.old, fun k hk => Nat.lt_of_lt_of_le (h.lt k hk) hm.size, hm.ext h.ext h0⟩
theorem Logd.modX {L : W5.Lg} (h : Logd w0 w X p ql L) (hm : Mod F w w') (hF : ∀ k, F k -> X k) (h0 : ∀ k, F k -> w0.heap.size <= k) : Logd w0 w' X p ql L :=
 let ⟨⟨Y, lv, vs, hY⟩, h2, h3, h4⟩ := h
 ⟨⟨Y, lv, vs, ⟨hY.held.modX hm (fun k hk => hY.sub k (hF k hk)) h0, hY.sub, hY.at_.mod hm (fun k hk hx => (hY.lf k hk).2 (hF k hx)), hY.lf, hY.old⟩⟩, h2, h3, h4⟩
structure StP (w0 w : World) (X Y Z : Nat -> Prop) (p q ql : Nat) (xv : Value) (x : S6.Idx) (n nd : Nat) (S : S6.St) : Prop where
 log : Logd w0 w Y p ql S.L
 sub : ∀ k, X k -> Y k
 qY : Y q
 qX : ¬ X q
 qb : w0.heap.size <= q
 old : ∀ k, k < w0.heap.size -> X k
 blk : w.heap[q]? = some (.cells [xv, .int .i64 (n : Int), .int .u64 (S.num : Int), .int .i64 (nd : Int), .int .i64 (S6.areaS S : Int), .pointer (some ⟨ql, 0, none⟩), .bool S.cl].toArray 89 (0, 0))
 idx : IdxIn w Z xv x
 zs : ∀ k, Z k -> Y k /\ ¬ X k /\ k ≠ q
 ok : S6.IOk x
 fl : x.flatten = S.l
 nn : n = S.l.length
 dd : nd = S6.needsL S.l
 pk : ∀ p ∈ S.l, S6.POk S.num p
 nm : S.num <= S6.lastN
 ln : S.l.length <= 200000
def Stod (w0 w : World) (X : Nat -> Prop) (p q : Nat) (S : S6.St) : Prop := ∃ Y Z ql xv x n nd, StP w0 w X Y Z p q ql xv x n nd S
variable {S : S6.St} {xv : Value} {x : S6.Idx} {n nd : Nat}
theorem StP.lt (h : StP w0 w X Y Z p q ql xv x n nd S) : ∀ k, Y k -> k < w.heap.size := h.log.held.lt
theorem StP.ext (h : StP w0 w X Y Z p q ql xv x n nd S) (hx : Ext w w1) : StP w0 w1 X Y Z p q ql xv x n nd S :=
 ⟨h.log.after hx, h.sub, h.qY, h.qX, h.qb, h.old, (Below.block (B := w.heap.size) hx q (h.lt q h.qY)).trans h.blk, h.idx.ext hx, h.zs, h.ok, h.fl, h.nn, h.dd, h.pk, h.nm, h.ln⟩
theorem StP.all (h : StP w0 w X Y Z p q ql xv x n nd S) (hx : Ext w w1) : StP w0 w1 (New X w w1) (New Y w w1) Z p q ql xv x n nd S :=
 ⟨h.log.all hx, fun k hk => hk.imp (h.sub k) id, .inl h.qY, fun hk => by
  rcases hk with hk | hk
  ·exact h.qX hk
  ·have := h.lt q h.qY; omega, h.qb, fun k hk => .inl (h.old k hk), (Below.block (B := w.heap.size) hx q (h.lt q h.qY)).trans h.blk, h.idx.ext hx, fun k hk => by
  obtain ⟨h1, h2, h3⟩ := h.zs k hk
  refine ⟨.inl h1, fun h4 => ?_, h3⟩
  rcases h4 with h4 | h4
  ·exact h2 h4
  ·have := h.lt k h1; omega, h.ok, h.fl, h.nn, h.dd, h.pk, h.nm, h.ln⟩
theorem StP.less {X' : Nat -> Prop} (h : StP w0 w X Y Z p q ql xv x n nd S) (hX : ∀ k, X' k -> X k) (ho : ∀ k, k < w0.heap.size -> X' k) : StP w0 w X' Y Z p q ql xv x n nd S :=
 ⟨h.log, fun k hk => h.sub k (hX k hk), h.qY, fun hk => h.qX (hX q hk), h.qb, ho, h.blk, h.idx, fun k hk => ⟨(h.zs k hk).1, fun h4 => (h.zs k hk).2.1 (hX k h4), (h.zs k hk).2.2⟩, h.ok, h.fl, h.nn, h.dd, h.pk, h.nm, h.ln⟩
theorem StP.modX (h : StP w0 w X Y Z p q ql xv x n nd S) (hm : Mod F w w') (hF : ∀ k, F k -> X k) (h0 : ∀ k, F k -> w0.heap.size <= k) : StP w0 w' X Y Z p q ql xv x n nd S :=
 ⟨h.log.modX hm (fun k hk => h.sub k (hF k hk)) h0, h.sub, h.qY, h.qX, h.qb, h.old, blk_mod h.blk hm (fun e => h.qX (hF q e)), h.idx.keeps (hm.mono (fun k hk hz => (h.zs k hz).2.1 (hF k hk))), h.zs, h.ok, h.fl, h.nn, h.dd, h.pk, h.nm, h.ln⟩
theorem Stod.after (h : Stod w0 w X p q S) (hx : Ext w w1) : Stod w0 w1 X p q S := let ⟨Y, Z, ql, xv, x, n, nd, h1⟩ := h; ⟨Y, Z, ql, xv, x, n, nd, h1.ext hx⟩
theorem Stod.all (h : Stod w0 w X p q S) (hx : Ext w w1) : Stod w0 w1 (New X w w1) p q S := let ⟨_, Z, ql, xv, x, n, nd, h1⟩ := h; ⟨_, Z, ql, xv, x, n, nd, h1.all hx⟩
theorem Stod.less {X' : Nat -> Prop} (h : Stod w0 w X p q S) (hX : ∀ k, X' k -> X k) (ho : ∀ k, k < w0.heap.size -> X' k) : Stod w0 w X' p q S := let ⟨Y, Z, ql, xv, x, n, nd, h1⟩ := h; ⟨Y, Z, ql, xv, x, n, nd, h1.less hX ho⟩
theorem Stod.modX (h : Stod w0 w X p q S) (hm : Mod F w w') (hF : ∀ k, F k -> X k) (h0 : ∀ k, F k -> w0.heap.size <= k) : Stod w0 w' X p q S := let ⟨Y, Z, ql, xv, x, n, nd, h1⟩ := h; ⟨Y, Z, ql, xv, x, n, nd, h1.modX hm hF h0⟩
theorem Stod.old (h : Stod w0 w X p q S) : ∀ k, k < w0.heap.size -> X k := let ⟨_, _, _, _, _, _, _, h1⟩ := h; h1.old
theorem Stod.lt (h : Stod w0 w X p q S) : ∀ k, X k -> k < w.heap.size := let ⟨_, _, _, _, _, _, _, h1⟩ := h; fun k hk => h1.lt k (h1.sub k hk)
theorem Stod.held (h : Stod w0 w X p q S) : Held w0 w X p S.L.d := let ⟨_, _, _, _, _, _, _, h1⟩ := h; (h1.log.held).less h1.sub h1.old
theorem Stod.toExt (h : Stod w0 w X p q S) : Ext w0 w := h.held.ext
theorem Stod.facts (h : Stod w0 w X p q S) : S6.Srt S.l /\ (∀ p ∈ S.l, S6.POk S.num p) /\ S.num <= S6.lastN /\ S.l.length <= 200000 := let ⟨_, _, _, _, _, _, _, h1⟩ := h; ⟨h1.fl ▸ h1.ok.srt, h1.pk, h1.nm, h1.ln⟩
theorem stod_get (h : Stod w0 w X p q S) (key : List UInt8) : Calls Tryz.prog 21 #[.pointer (some ⟨q, 0, none⟩), strV key] w fun e w' => GotE w w' (S6.look S.l key) e := by
 obtain ⟨Y, Z, ql, xv, x, n, nd, h1⟩ := h
 have := get6_any w Z q xv x key h1.idx h1.ok (by rw [h1.fl]; exact fun p hp => (h1.pk p hp).le h1.nm) (by rw [h1.fl]; have := h1.ln; omega) ((blk_cell h1.blk 0).trans rfl)
 rw [h1.fl] at this
 exact this
theorem stod_range (h : Stod w0 w X p q S) (f t : List UInt8) : Calls Tryz.prog 19 #[.pointer (some ⟨q, 0, none⟩), strV f, strV t] w fun e w' => ∃ v us, e = .returned v /\ PairsO w' w.heap.size v us (S6.range S.l f t) /\ Ext w w' := by
 obtain ⟨Y, Z, ql, xv, x, n, nd, h1⟩ := h
 have := range6_any w Z q xv x f t h1.idx h1.ok (by rw [h1.fl]; exact fun p hp => (h1.pk p hp).le h1.nm) (by rw [h1.fl]; have := h1.ln; omega) ((blk_cell h1.blk 0).trans rfl)
 rw [h1.fl] at this
 exact this
theorem stod_number (h : Stod w0 w X p q S) : Calls Tryz.prog 23 #[.pointer (some ⟨q, 0, none⟩)] w fun e w' => e = .returned (.int .u64 (S.num : Int)) /\ w = w' := by
 obtain ⟨Y, Z, ql, xv, x, n, nd, h1⟩ := h
 exact number6_any w q _ ((blk_cell h1.blk 2).trans rfl)
theorem stod_len (h : Stod w0 w X p q S) : Calls Tryz.prog 22 #[.pointer (some ⟨q, 0, none⟩)] w fun e w' => e = .returned (.int .i64 (S.l.length : Int)) /\ w = w' := by
 obtain ⟨Y, Z, ql, xv, x, n, nd, h1⟩ := h
 have := len6_any w q n ((blk_cell h1.blk 1).trans rfl)
 rw [h1.nn] at this
 exact this
theorem W5.append_n6 (L : W5.Lg) (b : List UInt8) : (W5.append L b).1.d.n = L.d.n := by
 have hf : ∀ x : D.Dsk, (D.flush x).n = x.n := by
  intro x
  unfold D.flush D.goes
  split <;> (try split) <;> (try split) <;> rfl
 have ha : (W5.appended L b).1.n = L.d.n := by
  unfold W5.appended W5.laid
  split
  ·rw [hf]; exact W5.lay_n _ _ _ _ _
  ·exact W5.lay_n _ _ _ _ _
 unfold W5.append
 split
 ·rfl
 ·split
  ·rfl
  ·split
   ·rfl
   ·split
    ·exact ha
    ·exact ha
theorem W5.renew_n6 (L : W5.Lg) (ls : List (List UInt8)) : (W5.renew L ls).1.d.n = L.d.n := by
 have hb := W5.begin_n L.d (L.gen + 1) ls
 unfold W5.renew
 repeat' split
 all_goals first | rfl | (unfold W5.renewI; split <;> exact hb)
theorem S6.logs_n (S : S6.St) (ws : List S6.Wr) : (S6.logs S ws).1.d.n = S.L.d.n := by
 unfold S6.logs
 split
 ·exact W5.append_n6 _ _
 ·exact W5.renew_n6 _ _
def NextAt (w wx : World) (Z : Nat -> Prop) (s8 : Value) (S : S6.St) (ws : List S6.Wr) : Prop :=
 ∃ (p8 : Nat) (xv : Value) (x : S6.Idx) (n nd : Nat), s8 = .pointer (some ⟨p8, 0, none⟩) /\ Ext w wx /\ w.heap.size <= p8 /\ wx.heap[p8]? = some (.cells [xv, .int .i64 (n : Int), .int .u64 ((S.num + 1 : Nat) : Int), .int .i64 (nd : Int)].toArray 87 (0, 0)) /\
  IdxIn wx (New Z w wx) xv x /\ S6.IOk x /\ x.flatten = S6.apl S.l (S.num + 1) ws /\ n = (S6.apl S.l (S.num + 1) ws).length /\ nd = S6.needsL (S6.apl S.l (S.num + 1) ws)
def Committed (w0 w w' : World) (X : Nat -> Prop) (p q : Nat) (r : S6.St × Nat × Int) (e : Ending) : Prop :=
 e = .returned (.tuple #[.int .u64 (r.2.1 : Int), .int .i64 r.2.2]) /\ Stod w0 w' X p q r.1 /\ Keeps X w w'
theorem Committed.same {hx : Ext w w'} (h : Stod w0 w X p q S) (k : Nat) (c : Int) : Committed w0 w w' X p q (S, k, c) (.returned (.tuple #[.int .u64 (k : Int), .int .i64 c])) := ⟨rfl, h.after hx, Keeps.of_ext hx⟩
theorem commit_any (h : Stod w0 w X p q S) (v : Value) (ws : List S6.Wr) (hw : WrsIn w X v ws) (hwl : S.L.d.wait.length <= 1073600000) :
 Calls Tryz.prog 10 #[.pointer (some ⟨q, 0, none⟩), v] w fun e w' => Committed w0 w w' X p q (S6.commit S ws) e := by
 have HS := qh h
 obtain ⟨Y, Z, ql, xv, x, n, nd, h1⟩ := h
 have hXw := HS.out.lt
 have hZw : ∀ k, Z k -> k < w.heap.size := fun k hk => h1.lt k (h1.zs k hk).1
 obtain ⟨_, va, vc, rfl, _⟩ := hw.shape
 obtain ⟨_, xa, xc, rfl, _⟩ := h1.idx.shape
 have c0 : w.cell? ⟨q, 0, none⟩ = some (.slice xa x.length xc) := (blk_cell h1.blk 0).trans rfl
 have c1 : w.cell? ⟨q, 1, none⟩ = some (.int .i64 (n : Int)) := (blk_cell h1.blk 1).trans rfl
 have c2 : w.cell? ⟨q, 2, none⟩ = some (.int .u64 (S.num : Int)) := (blk_cell h1.blk 2).trans rfl
 have c3 : w.cell? ⟨q, 3, none⟩ = some (.int .i64 (nd : Int)) := (blk_cell h1.blk 3).trans rfl
 have c6 : w.cell? ⟨q, 6, none⟩ = some (.bool S.cl) := (blk_cell h1.blk 6).trans rfl
 have H1 := qh h1
 have HW := qh hw
 have HXW := qh hXw
 have HZW := qh hZw
 by_cases hcl : S.cl = true
 ·have e : S6.commit S ws = (S, 0, 7) := by unfold S6.commit; rw [if_pos hcl]
  rw [e]
  rw [hcl] at c6
  clear e h1 hw hXw hZw hcl
  go_enter Tryz.func10, Tryz.ntmps10
  go_wp2
  go_ret2
  exact Committed.same (hx := Ext.refl w) HS.out 0 7
 ·have hclf : S.cl = false := by simpa using hcl
  rw [hclf] at c6
  have hWR := wrong_any w X Z hXw hZw q _ _ x ws h1.idx h1.ok (by rw [h1.fl]; exact fun p hp => (h1.pk p hp).le h1.nm) (by rw [h1.fl]; have := h1.ln; omega) c0 hw
  rw [h1.fl] at hWR
  have HWR := qh hWR
  by_cases hc : S6.wrongE S.l ws ≠ 0
  ·have e : S6.commit S ws = (S, 0, S6.wrongE S.l ws) := by unfold S6.commit; rw [if_neg hcl, if_pos hc]
   rw [e]
   clear e h1 hw hXw hZw hcl hWR
   generalize S6.wrongE S.l ws = cc at *
   have hcb : ((cc : Int) != 0) = true := by rw [bne_iff_ne]; exact hc
   go_enter Tryz.func10, Tryz.ntmps10
   go_wp2_with fail
   refine HWR.out.mono ?_
   clear HWR
   rintro e w2 ⟨rfl, hx2⟩
   have HX2 := qh hx2
   clear hx2
   go_wp2
   go_ret2
   exact Committed.same (hx := HX2.out) HS.out 0 cc
  ·have hc0 : S6.wrongE S.l ws = 0 := by simpa using hc
   have HG := qh (S6.wrong_good hc0)
   rw [hc0] at HWR
   by_cases hws : ws = []
   ·subst hws
    have e : S6.commit S [] = (S, S.num, 0) := by unfold S6.commit; rw [if_neg hcl, if_neg hc, if_pos rfl]
    rw [e]
    clear e h1 hw hXw hZw hcl hWR hc hc0
    go_enter Tryz.func10, Tryz.ntmps10
    go_wp2_with fail
    refine HWR.out.mono ?_
    clear HWR
    rintro e w2 ⟨rfl, hx2⟩
    have HX2 := qh hx2
    have c2' := hx2.cell c2
    clear hx2
    go_wp2
    go_ret2
    exact Committed.same (hx := HX2.out) HS.out _ 0
   ·by_cases hlast : S.num = S6.lastN
    ·have e : S6.commit S ws = (S, 0, 11) := by unfold S6.commit; rw [if_neg hcl, if_neg hc, if_neg hws, if_pos hlast]
     rw [e]
     have hwl0 : ¬ ws.length = 0 := fun e => hws (List.eq_nil_of_length_eq_zero e)
     have hwl1 : ((ws.length : Int) == 0) = false := by rw [beq_eq_false_iff_ne]; omega
     have hll : (S.num : Int) = 9223372036854775807 := by rw [hlast]; rfl
     clear e h1 hw hXw hZw hcl hWR hc hc0 hws hwl0
     rw [hll] at c2
     clear hll hlast
     go_enter Tryz.func10, Tryz.ntmps10
     go_wp2_with fail
     refine HWR.out.mono ?_
     clear HWR
     rintro e w2 ⟨rfl, hx2⟩
     have HX2 := qh hx2
     have c2' := hx2.cell c2
     clear hx2
     go_wp2
     go_ret2
     exact Committed.same (hx := HX2.out) HS.out 0 11
    ·have hnl : S.num < S6.lastN := by have := h1.nm; omega
     have e : S6.commit S ws = if 8192 < (S6.batchB (S.num + 1) ws).length then (S, 0, 2) else if S6.areaS S < S6.needsL (S6.apl S.l (S.num + 1) ws) then (S, 0, 6) else S6.after S ws := by
      unfold S6.commit; rw [if_neg hcl, if_neg hc, if_neg hws, if_neg hlast]
     rw [e]
     --@@MAIN
     obtain ⟨N1, hN1⟩ : ∃ N1, N1 = S.num + 1 := ⟨_, rfl⟩
     have hn1 : (S.num : Int) + 1 = (N1 : Int) := by omega
     have hN1l : N1 <= S6.lastN := by omega
     have hN1b : N1 <= 9223372036854775807 := hN1l
     have hwr : IntKind.u64.wrap (N1 : Int) = (N1 : Int) := by rw [IntKind.wrap_u64]; omega
     have hwl0 : ¬ ws.length = 0 := fun e => hws (List.eq_nil_of_length_eq_zero e)
     have hwl1 : ((ws.length : Int) == 0) = false := by rw [beq_eq_false_iff_ne]; omega
     have hwl64 := HG.out.len
     have hll : ((S.num : Int) == 9223372036854775807) = false := by rw [beq_eq_false_iff_ne]; unfold S6.lastN at hnl; omega
     have hll2 : ¬ (S.num : Int) = 9223372036854775807 := by unfold S6.lastN at hnl; omega
     have HBT := qh (fun (W : World) (hW : Ext w W) => batch_any W X (.slice va ws.length vc) N1 ws (hw.ext hW) (by omega) (by omega) (fun x hx => ⟨by have := (HG.out.ok x hx).key; omega, by have := (HG.out.ok x hx).val; omega⟩))
     have HAP := qh (fun (W : World) (hW : Ext w W) => apply_any W X Z (fun k hk => Nat.lt_of_lt_of_le (hXw k hk) hW.size) (fun k hk => Nat.lt_of_lt_of_le (hZw k hk) hW.size) (.slice xa x.length xc) (.slice va ws.length vc) x S.num N1 ws (h1.idx.ext hW) h1.ok (by rw [h1.fl]; exact fun p hp => (h1.pk p hp).le h1.nm) h1.nm hN1l (hw.ext hW) HG.out.ok (by rw [h1.fl]; have := h1.ln; omega) n nd (by rw [h1.fl]; exact h1.nn) (by rw [h1.fl]; exact h1.dd))
     have hmx : max S.num N1 = N1 := by omega
     rw [hmx] at HAP
     have HN1 := qh hN1
     rw [<- hN1]
     generalize hR : (if 8192 < (S6.batchB N1 ws).length then (S, 0, 2) else if S6.areaS S < S6.needsL (S6.apl S.l N1 ws) then (S, 0, 6) else S6.after S ws) = R at *
     have HR := qh hR
     clear hR
     unfold MadeB at HBT
     have HWLE := qh hwl
     have HSN : Hid (S.num < S6.lastN) := hnl
     clear e h1 hw hXw hZw hcl hWR hc hc0 hws hwl0 hlast hN1 hmx hwl hnl
     generalize hBB : S6.batchB N1 ws = BB at *
     have HBB := qh hBB
     clear hBB
     go_enter Tryz.func10, Tryz.ntmps10
     go_wp2_with fail
     refine HWR.out.mono ?_
     clear HWR
     rintro e w2 ⟨rfl, hx2⟩
     have HX2 := qh hx2
     have c2' := hx2.cell c2
     clear hx2
     go_wp2_with fail
     refine (HBT.out _ HX2.out).mono ?_
     clear HBT
     rintro e w3 ⟨bv, rfl, hown3, hx3⟩
     have HX3 := qh (HX2.out.trans hx3)
     obtain ⟨ba, bc, rfl⟩ := (Bs.of_own hown3).shape
     have HO3 := qh (ownsRow_base5 hown3 HX2.out.size)
     clear hx3 hown3
     by_cases h8 : 8192 < BB.length
     ·have hR := HR.out
      rw [if_pos h8] at hR
      subst hR
      have h8i : (8192 : Int) < (BB.length : Int) := by omega
      go_wp2
      go_ret2
      exact Committed.same (hx := HX3.out) HS.out 0 2
     ·have h8i : ¬ (8192 : Int) < (BB.length : Int) := by omega
      have h8d : decide ((8192 : Int) < (BB.length : Int)) = false := decide_eq_false h8i
      have d0 := HX3.out.cell c0
      have d1 := HX3.out.cell c1
      have d2 := HX3.out.cell c2
      have d3 := HX3.out.cell c3
      clear c2'
      have hx33 : Ext w3 w3 := Ext.refl _
      go_upto_region 13 with fail
      go_cut [8] (fun s8 wx => Hid (NextAt w wx Z s8 S ws /\ Ext w3 wx))
      case first =>
       have hx30 := Ext.of_drew w3
       have hHeld := hx30
       refine wp_region_C (fun w' => Ext w3 w') 13 (by kernel_rfl) ?_
       (refine aC [13] (i := 0) (oi := ⟨some 45, _, _, _, _, _⟩) (v := ?_) rfl ?_ hHeld ?_; rotate_left; (focus (intro w; intro hSw; (skip); go_simp; first | done | with_reducible rfl)); try simp only [Act.put, zB, zC, zD])
       (refine aC [13] (i := 1) (oi := ⟨some 46, _, _, _, _, _⟩) (v := ?_) rfl ?_ hHeld ?_; rotate_left; (focus (intro w; intro hSw; (skip); go_simp; first | done | with_reducible rfl)); try simp only [Act.put, zB, zC, zD])
       (refine aC [13] (i := 2) (oi := ⟨some 47, _, _, _, _, _⟩) (v := ?_) rfl ?_ hHeld ?_; rotate_left; (focus (intro w; intro hSw; (skip); go_simp; first | done | with_reducible rfl)); try simp only [Act.put, zB, zC, zD])
       (refine aC [13] (i := 3) (oi := ⟨some 48, _, _, _, _, _⟩) (v := ?_) rfl ?_ hHeld ?_; rotate_left; (focus (intro w; intro hSw; (((have qa := hSw.cell d0); (have qb := hSw.cell d1); (have qc := hSw.cell d2); (have qd := hSw.cell d3))); go_simp; first | done | with_reducible rfl)); try simp only [Act.put, zB, zC, zD])
       (refine aC [13] (i := 4) (oi := ⟨some 49, _, _, _, _, _⟩) (v := ?_) rfl ?_ hHeld ?_; rotate_left; (focus (intro w; intro hSw; (skip); go_simp; first | done | with_reducible rfl)); try simp only [Act.put, zB, zC, zD])
       (refine aC [13] (i := 5) (oi := ⟨some 50, _, _, _, _, _⟩) (v := ?_) rfl ?_ hHeld ?_; rotate_left; (focus (intro w; intro hSw; (skip); go_simp; first | done | with_reducible rfl)); try simp only [Act.put, zB, zC, zD])
       (refine aC [13] (i := 6) (oi := ⟨some 51, _, _, _, _, _⟩) (v := ?_) rfl ?_ hHeld ?_; rotate_left; (focus (intro w; intro hSw; (skip); go_simp; first | done | with_reducible rfl)); try simp only [Act.put, zB, zC, zD])
       (refine aC [13] (i := 7) (oi := ⟨some 52, _, _, _, _, _⟩) (v := ?_) rfl ?_ hHeld ?_; rotate_left; (focus (intro w; intro hSw; (skip); go_simp; first | done | with_reducible rfl)); try simp only [Act.put, zB, zC, zD])
       (refine aC [13] (i := 8) (oi := ⟨some 53, _, _, _, _, _⟩) (v := ?_) rfl ?_ hHeld ?_; rotate_left; (focus (intro w; intro hSw; ((have q := hSw.cell d2)); go_simp; first | done | with_reducible rfl)); try simp only [Act.put, zB, zC, zD])
       (refine aC [13] (i := 9) (oi := ⟨some 54, _, _, _, _, _⟩) (v := ?_) rfl ?_ hHeld ?_; rotate_left; (focus (intro w; intro hSw; (skip); go_simp; first | done | with_reducible rfl)); try simp only [Act.put, zB, zC, zD])
       (refine aC [13] (i := 10) (oi := ⟨some 55, _, _, _, _, _⟩) (v := ?_) rfl ?_ hHeld ?_; rotate_left; (focus (intro w; intro hSw; (skip); go_simp; first | done | with_reducible rfl)); try simp only [Act.put, zB, zC, zD])
       refine wpAnyC_two (i := 11) (j := 12) (oi := ⟨some 56, _, _, _, _, _⟩) (oj := ⟨some 8, _, _, _, _, _⟩) rfl rfl (by kernel_rfl) (by decide) (by decide) (fun K hK => ?_) (fun K hK => ?_)
       ·rw [if_pos (by rfl)]
        go_simp
        refine (HAP.out _ (HX3.out.trans hHeld)).mono ?_
        rintro e w4 ⟨xv4, x4, n4, nd4, rfl, hn4, hd4, hI4, hok4, hfl4, hx4⟩
        obtain ⟨_, xa4, xc4, rfl, _⟩ := hI4.shape
        have HN4 := qh hn4
        have HD4 := qh hd4
        have HF4 := qh hfl4
        clear hn4 hd4 hfl4
        have hHeld2 := hHeld.trans hx4
        clear hHeld
        have hHeld := hHeld2
        clear hHeld2
        refine hK.out _ _ hHeld ?_
        clear hK K
        try simp only [Act.put, zB, zC, zD]
        refine wpAnyC_one (i := 12) (oi := ⟨some 8, _, _, _, _, _⟩) rfl (by kernel_rfl) (by decide) (fun K hK => ?_)
        rw [if_pos (by rfl)]
        go_simp
        obtain ⟨wZ, hwZ⟩ : ∃ wZ, wZ = World.alloc w4 (.cells #[.slice none 0 0, .int .i64 0, .int .u64 0, .int .i64 0] 87) := ⟨_, rfl⟩
        have hxZ : Ext w4 wZ := by rw [hwZ]; exact Ext.of_alloc _ _
        have hbZ : wZ.heap[w4.heap.size]? = some (.cells [.slice none 0 0, .int .i64 0, .int .u64 0, .int .i64 0].toArray 87 (0, 0)) := by rw [hwZ]; exact heap_alloc_new _ _
        have hsZ : wZ.heap.size = w4.heap.size + 1 := by rw [hwZ]; simp
        rw [<- hwZ]
        clear hwZ
        have hHeld2 := hHeld.trans hxZ
        clear hHeld
        have hHeld := hHeld2
        clear hHeld2
        refine hK.out _ _ hHeld ?_
        clear hK K
        try simp only [Act.put, zB, zC, zD]
        refine wpAnyC_c (oi := ⟨none, _, _, _, _, _⟩) rfl (by kernel_rfl) (fun K hK => ?_)
        rw [if_pos (by rfl)]
        refine wp_store_mid 87 _ _ rfl w4.heap.size 0 #[.slice xa4 x4.length xc4, .int .i64 (n4 : Int), .int .u64 (N1 : Int), .int .i64 (nd4 : Int)] rfl rfl (there_blk hbZ 0 4 (by simp)) (by kernel_rfl) (by simp [Value.oneCell']) ?_
        refine hK.out _ _ ?_
        clear hK K
        try simp only [Act.put]
        refine wpAny_done (by kernel_rfl) ?_ _
        have hp5 : w.heap.size <= w4.heap.size := by have := HX3.out.size; have := hx30.size; have := hx4.size; omega
        have hm9 := mod_setCells (fun z => z = w4.heap.size) wZ w4.heap.size 0 (#[.slice xa4 x4.length xc4, .int .i64 (n4 : Int), .int .u64 (N1 : Int), .int .i64 (nd4 : Int)] : Array Value).toList rfl
        have hb9 := blk_setCells w4.heap.size 87 (#[.slice xa4 x4.length xc4, .int .i64 (n4 : Int), .int .u64 (N1 : Int), .int .i64 (nd4 : Int)] : Array Value).toList 0 wZ _ hbZ (by simp)
        have hx9 : Ext w _ := Mod.ext (HX3.out.trans hHeld) hm9 (fun z hz => by omega)
        have hx39 : Ext w3 _ := Mod.ext hHeld hm9 (fun z hz => by have := hx30.size; have := hx4.size; omega)
        have hI9 : IdxIn (World.setCells wZ w4.heap.size 0 (#[.slice xa4 x4.length xc4, .int .i64 (n4 : Int), .int .u64 (N1 : Int), .int .i64 (nd4 : Int)] : Array Value).toList) (New Z w (World.setCells wZ w4.heap.size 0 (#[.slice xa4 x4.length xc4, .int .i64 (n4 : Int), .int .u64 (N1 : Int), .int .i64 (nd4 : Int)] : Array Value).toList)) (.slice xa4 x4.length xc4) x4 := ((hI4.ext hxZ).keeps (hm9.mono (fun z hz hY => (by rcases hY with hY | hY <;> first | omega | (have := HZW.out z hY; have := HX3.out.size; have := hx30.size; have := hx4.size; omega))))).mono (fun z hz => hz.imp id (fun h => ⟨by have := HX3.out.size; have := hx30.size; omega, by have := hm9.size; omega⟩))
        go_wp2_with fail
        go_meet
        exact ⟨⟨w4.heap.size, .slice xa4 x4.length xc4, x4, n4, nd4, (by first | rfl | simp), hx9, hp5, by rw [<- HN1.out]; simpa using hb9, hI9, hok4, by rw [HF4.out, H1.out.fl, HN1.out], by rw [HN4.out, HF4.out, H1.out.fl, HN1.out], by rw [HD4.out, HF4.out, H1.out.fl, HN1.out]⟩, hx39⟩
       ·rw [if_pos (by rfl)]
        go_simp
        obtain ⟨wZ, hwZ⟩ : ∃ wZ, wZ = (World.alloc w3 (.cells #[.slice none 0 0, .int .i64 0, .int .u64 0, .int .i64 0] 87)).drew := ⟨_, rfl⟩
        have hxZ : Ext w3 wZ := by rw [hwZ]; exact (Ext.of_alloc _ _).drew
        have hbZ : wZ.heap[w3.heap.size]? = some (.cells [.slice none 0 0, .int .i64 0, .int .u64 0, .int .i64 0].toArray 87 (0, 0)) := by rw [hwZ]; exact heap_alloc_new _ _
        have hsZ : wZ.heap.size = w3.heap.size + 1 := by rw [hwZ]; simp
        rw [<- hwZ]
        clear hwZ
        have hHeld2 := hxZ
        clear hHeld
        have hHeld := hHeld2
        clear hHeld2
        refine hK.out _ _ hHeld ?_
        clear hK K
        try simp only [Act.put, zB, zC, zD]
        refine wpAnyC_one (i := 11) (oi := ⟨some 56, _, _, _, _, _⟩) rfl (by kernel_rfl) (by decide) (fun K hK => ?_)
        rw [if_pos (by rfl)]
        go_simp
        refine (HAP.out _ (HX3.out.trans hHeld)).mono ?_
        rintro e w4 ⟨xv4, x4, n4, nd4, rfl, hn4, hd4, hI4, hok4, hfl4, hx4⟩
        obtain ⟨_, xa4, xc4, rfl, _⟩ := hI4.shape
        have HN4 := qh hn4
        have HD4 := qh hd4
        have HF4 := qh hfl4
        clear hn4 hd4 hfl4
        have hHeld2 := hHeld.trans hx4
        clear hHeld
        have hHeld := hHeld2
        clear hHeld2
        refine hK.out _ _ hHeld ?_
        clear hK K
        try simp only [Act.put, zB, zC, zD]
        refine wpAnyC_c (oi := ⟨none, _, _, _, _, _⟩) rfl (by kernel_rfl) (fun K hK => ?_)
        rw [if_pos (by rfl)]
        refine wp_store_mid 87 _ _ rfl w3.heap.size 0 #[.slice xa4 x4.length xc4, .int .i64 (n4 : Int), .int .u64 (N1 : Int), .int .i64 (nd4 : Int)] rfl rfl (there_blk ((Below.block (B := wZ.heap.size) hx4 _ (blk_lt hbZ)).trans hbZ) 0 4 (by simp)) (by kernel_rfl) (by simp [Value.oneCell']) ?_
        refine hK.out _ _ ?_
        clear hK K
        try simp only [Act.put]
        refine wpAny_done (by kernel_rfl) ?_ _
        have hp5 : w.heap.size <= w3.heap.size := HX3.out.size
        have hm9 := mod_setCells (fun z => z = w3.heap.size) w4 w3.heap.size 0 (#[.slice xa4 x4.length xc4, .int .i64 (n4 : Int), .int .u64 (N1 : Int), .int .i64 (nd4 : Int)] : Array Value).toList rfl
        have hb9 := blk_setCells w3.heap.size 87 (#[.slice xa4 x4.length xc4, .int .i64 (n4 : Int), .int .u64 (N1 : Int), .int .i64 (nd4 : Int)] : Array Value).toList 0 w4 _ ((Below.block (B := wZ.heap.size) hx4 _ (blk_lt hbZ)).trans hbZ) (by simp)
        have hx9 : Ext w _ := Mod.ext (HX3.out.trans hHeld) hm9 (fun z hz => by omega)
        have hx39 : Ext w3 _ := Mod.ext hHeld hm9 (fun z hz => by omega)
        have hI9 : IdxIn (World.setCells w4 w3.heap.size 0 (#[.slice xa4 x4.length xc4, .int .i64 (n4 : Int), .int .u64 (N1 : Int), .int .i64 (nd4 : Int)] : Array Value).toList) (New Z w (World.setCells w4 w3.heap.size 0 (#[.slice xa4 x4.length xc4, .int .i64 (n4 : Int), .int .u64 (N1 : Int), .int .i64 (nd4 : Int)] : Array Value).toList)) (.slice xa4 x4.length xc4) x4 := ((hI4).keeps (hm9.mono (fun z hz hY => (by rcases hY with hY | hY <;> first | omega | (have := HZW.out z hY; have := HX3.out.size; omega))))).mono (fun z hz => hz.imp id (fun h => ⟨by have := HX3.out.size; omega, by have := hm9.size; omega⟩))
        go_wp2_with fail
        go_meet
        exact ⟨⟨w3.heap.size, .slice xa4 x4.length xc4, x4, n4, nd4, (by first | rfl | simp), hx9, hp5, by rw [<- HN1.out]; simpa using hb9, hI9, hok4, by rw [HF4.out, H1.out.fl, HN1.out], by rw [HN4.out, HF4.out, H1.out.fl, HN1.out], by rw [HD4.out, HF4.out, H1.out.fl, HN1.out]⟩, hx39⟩
      case rest =>
       obtain ⟨⟨p8, xv8, x8, n8, nd8, rfl, hx9, hp8, hb8, hI8, hok8, hfl8, hn8, hd8⟩, hx39⟩ := hcut.out
       have HX3c := qh hx39
       clear hx39
       rw [<- HN1.out] at hb8 hfl8 hn8 hd8
       obtain ⟨_, xa8, xc8, rfl, _⟩ := hI8.shape
       have HX9 := qh hx9
       have HI8 := qh hI8
       have HF8 := qh hfl8
       have HN8 := qh hn8
       have HD8 := qh hd8
       have HB8 := qh hb8
       have HOK8 := qh hok8
       have g0 : wc.cell? ⟨p8, 0, none⟩ = some (.slice xa8 x8.length xc8) := (blk_cell hb8 0).trans rfl
       have g1 : wc.cell? ⟨p8, 1, none⟩ = some (.int .i64 (n8 : Int)) := (blk_cell hb8 1).trans rfl
       have g2 : wc.cell? ⟨p8, 2, none⟩ = some (.int .u64 (N1 : Int)) := (blk_cell hb8 2).trans rfl
       have g3 : wc.cell? ⟨p8, 3, none⟩ = some (.int .i64 (nd8 : Int)) := (blk_cell hb8 3).trans rfl
       have d4 : wc.cell? ⟨q, 4, none⟩ = some (.int .i64 (S6.areaS S : Int)) := hx9.cell ((blk_cell H1.out.blk 4).trans rfl)
       have d5 : wc.cell? ⟨q, 5, none⟩ = some (.pointer (some ⟨ql, 0, none⟩)) := hx9.cell ((blk_cell H1.out.blk 5).trans rfl)
       have hpk8 : ∀ p ∈ x8.flatten, S6.POk S6.lastN p := by rw [hfl8, <- H1.out.fl]; exact S6.apl_pok (by rw [H1.out.fl]; exact fun p hp => (H1.out.pk p hp).le H1.out.nm) HG.out.ok hN1l
       have HPK8 := qh hpk8
       have hln8 : x8.flatten.length <= 200064 := by
        rw [hfl8]
        have := S6.apl_len N1 ws S.l
        have := H1.out.ln
        omega
       have hnd8 : nd8 <= 9000000 := by
        have := S6.needsL_le hpk8 (Nat.le_refl _)
        rw [hfl8] at this hln8
        omega
       have HROOM := qh (fun (W : World) (hW : Ext wc W) => logd_room (H1.out.log.after (HX9.out.trans hW)))
       have hus : W5.used S.L.recs <= W5.area S.L.d := H1.out.log.fit
       have har : S6.areaS S = W5.area S.L.d := rfl
       have har2 : W5.area S.L.d <= 2047 := W5.area_le _ H1.out.log.ok.n2
       have hne9 : W5.need BB.length <= 100 := by unfold W5.need; split <;> omega
       have hLOGS : S6.logs S ws = if W5.need BB.length + W5.used S.L.recs <= S6.areaS S then W5.append S.L BB else W5.renew S.L (S6.image (S6.apl S.l N1 ws) N1) := by
        unfold S6.logs; rw [<- HN1.out, HBB.out]
       have HLOGS := qh hLOGS
       rw [har] at d4 hLOGS
       have HAR := qh har
       have hR := HR.out
       rw [if_neg h8] at hR
       clear hx9 hI8 hfl8 hn8 hd8 hb8 hok8 hpk8 hLOGS d0 d1 d2 d3 c0 c1 c2 c3 c6
       by_cases hfull : S6.areaS S < S6.needsL (S6.apl S.l N1 ws)
       ·rw [if_pos hfull] at hR
        subst hR
        rw [<- HD8.out, har] at hfull
        have hfi : (W5.area S.L.d : Int) < (nd8 : Int) := by omega
        clear har
        go_upto_region 14 with fail
        go_region_held3 (fun v => v.cell? ⟨q, 4, none⟩ = some (.int .i64 (W5.area S.L.d : Int)) /\ v.cell? ⟨p8, 3, none⟩ = some (.int .i64 (nd8 : Int))) (exact ⟨(Ext.of_drew wc).cell d4, (Ext.of_drew wc).cell g3⟩) (fail)
        go_wp2
        go_ret2
        exact Committed.same (hx := HX9.out.trans (Ext.of_drew wc)) HS.out 0 6
       ·rw [if_neg hfull] at hR
        have hR2 := qh hR
        rw [<- HD8.out, har] at hfull
        have hfi : ¬ (W5.area S.L.d : Int) < (nd8 : Int) := by omega
        have hfd : decide ((W5.area S.L.d : Int) < (nd8 : Int)) = false := decide_eq_false hfi
        have hHL := qh hfull
        clear har hR hfull
        go_upto_region 14 with fail
        go_region_held3 (fun v => v.cell? ⟨q, 4, none⟩ = some (.int .i64 (W5.area S.L.d : Int)) /\ v.cell? ⟨p8, 3, none⟩ = some (.int .i64 (nd8 : Int))) (exact ⟨(Ext.of_drew wc).cell d4, (Ext.of_drew wc).cell g3⟩) (fail)
        obtain ⟨wd, hwd⟩ : ∃ wd, wd = wc.drew := ⟨_, rfl⟩
        have hxd : Ext wc wd := by rw [hwd]; exact Ext.of_drew _
        rw [<- hwd]
        clear hwd
        have e5 := hxd.cell d5
        have HXD := qh hxd
        have q0 := hxd.cell g0
        have q1 := hxd.cell g1
        have q2 := hxd.cell g2
        have q3' := hxd.cell g3
        clear d4 d5 g0 g1 g2 g3 hxd
        generalize hNE : W5.need BB.length = NE at *
        generalize hUS : W5.used S.L.recs = US at *
        generalize hAA : W5.area S.L.d = AA at *
        have HNE := qh hNE
        have HUS := qh hUS
        have HAA := qh hAA
        clear hNE hUS hAA
        go_upto_region 17 with fail
        have hx0 := Ext.of_drew wd
        go_region_held3 (fun v => v.cell? ⟨q, 5, none⟩ = some (.pointer (some ⟨ql, 0, none⟩))) (first | exact hx0.cell e5 | exact hx5.cell (hx0.cell e5)) (first
         | (go_at_call 46; refine (need_any (BB.length : Int) _ (by omega) (by omega)).mono ?_; rintro e wN ⟨rfl, rfl⟩; rw [W5.need_nat, HNE.out])
         | (go_at_call 47; refine (HROOM.out _ (HXD.out.trans hx0)).mono ?_; rintro e w5 ⟨rfl, hx5⟩))
        have HX5 := qh (hx0.trans hx5)
        have HXW5 := qh (HX9.out.trans (HXD.out.trans (hx0.trans hx5)))
        have r5 := HX5.out.cell e5
        have r0 := HX5.out.cell q0
        have r1 := HX5.out.cell q1
        have r2 := HX5.out.cell q2
        have r3 := HX5.out.cell q3'
        have HWL := HWLE
        have hb5 : Bs w5 (.slice ba BB.length bc) BB := (Bs.of_own HO3.out).ext ((HX3c.out.trans HXD.out).trans HX5.out)
        have HBS5 := qh hb5
        have hbX5 : ∀ k, (Value.slice ba BB.length bc).ownBlock = some k -> New Y w w5 k := fun k hk => .inr ⟨(HO3.out.lt k hk).1, Nat.lt_of_lt_of_le (HO3.out.lt k hk).2 ((HX3c.out.trans HXD.out).trans HX5.out).size⟩
        have HBX5 := qh hbX5
        clear hx0 hx5 e5 q0 q1 q2 q3' hb5 hbX5
        go_upto_if 72 with fail
        go_cut [9] (fun s9 wx => Hid (∃ r : W5.Lg × Int, r = S6.logs S ws /\ s9 = .int .i64 r.2 /\ Logd w0 wx (New Y w wd) p ql r.1 /\ Keeps (New Y w wd) wd wx))
        case first =>
         by_cases hroom : NE + US <= AA
         ·have hri : (NE : Int) <= (AA : Int) - (US : Int) := by omega
          have hlg : S6.logs S ws = W5.append S.L BB := by
           rw [HLOGS.out, if_pos]
           show NE + US <= W5.area S.L.d
           rw [HAA.out]; exact hroom
          have HLG := qh hlg
          have HAPP := qh (append_any (H1.out.log.all HXW5.out) (.slice ba BB.length bc) BB HBS5.out HBX5.out HWL.out)
          clear hlg hroom
          go_wp2_with fail
          refine HAPP.out.mono ?_
          clear HAPP
          rintro e w6 ⟨rfl, hL6, hK6⟩
          have hNN : ∀ k, New Y w wd k -> New Y w w5 k := fun k hk => New.mono HX5.out.size k hk
          have HL6 := qh (hL6.less hNN (fun k hk => .inl (H1.out.sub k (H1.out.old k hk))))
          have HK6 := qh (Keeps.trans (Keeps.of_ext HX5.out) (hK6.less hNN))
          clear hL6 hK6 hNN
          go_wp2_with fail
          go_meet
          exact ⟨W5.append S.L BB, HLG.out.symm, (by first | rfl | simp), HL6.out, HK6.out⟩
         ·have hri : ¬ (NE : Int) <= (AA : Int) - (US : Int) := by omega
          have hrd : decide ((NE : Int) <= (AA : Int) - (US : Int)) = false := decide_eq_false hri
          have hlg : S6.logs S ws = W5.renew S.L (S6.image (S6.apl S.l N1 ws) N1) := by
           rw [HLOGS.out, if_neg]
           show ¬ NE + US <= W5.area S.L.d
           rw [HAA.out]; exact hroom
          have HLG := qh hlg
          have himg : ∀ W, Ext wc W -> Calls Tryz.prog 50 #[.agg #[.slice xa8 x8.length xc8, .int .i64 (n8 : Int), .int .u64 (N1 : Int), .int .i64 (nd8 : Int)]] W fun e w' => ∃ v vs, e = .returned v /\ RowsO w' W.heap.size v vs (S6.image x8.flatten N1) /\ Ext W w' := fun W hW => image_any W _ _ x8 N1 n8 nd8 (HI8.out.ext hW) HOK8.out HPK8.out (by omega) hN1l
          have HIMG := qh himg
          have HIL := qh (show (S6.image x8.flatten N1).length <= 1000000 by unfold S6.image; rw [List.length_cons, List.length_map]; omega)
          clear hlg hroom himg
          go_upto_region 19 with fail
          have hx50 := Ext.of_drew w5
          have hp85 : p8 < w5.heap.size := World.block_lt_of_cell? w5 ⟨p8, 0, none⟩ r0
          go_region_held3 (fun v => v.cell? ⟨q, 5, none⟩ = some (.pointer (some ⟨ql, 0, none⟩)) /\ v.cell? ⟨p8, 0, none⟩ = some (.slice xa8 x8.length xc8) /\ v.cell? ⟨p8, 1, none⟩ = some (.int .i64 (n8 : Int)) /\ v.cell? ⟨p8, 2, none⟩ = some (.int .u64 (N1 : Int)) /\ v.cell? ⟨p8, 3, none⟩ = some (.int .i64 (nd8 : Int))) (first
           | exact ⟨hx50.cell r5, hx50.cell r0, hx50.cell r1, hx50.cell r2, hx50.cell r3⟩
           | exact ⟨hx6.cell (hx50.cell r5), hx6.cell (hx50.cell r0), hx6.cell (hx50.cell r1), hx6.cell (hx50.cell r2), hx6.cell (hx50.cell r3)⟩
           | exact ⟨z5, z0, z1, z2, z3⟩) (first
           | (go_at_call 50; refine (HIMG.out _ (HXD.out.trans (HX5.out.trans hx50))).mono ?_; rintro e w6 ⟨v6, vs6, rfl, hR6, hx6⟩)
           | (go_at_call 49; have hx56 := HX5.out.trans (hx50.trans hx6); have hxw6 := HX9.out.trans (HXD.out.trans hx56); refine (renew_any (H1.out.log.all hxw6) v6 (S6.image x8.flatten N1) (hR6.rows (fun k h1 h2 => .inr ⟨by have := HXW5.out.size; have := hx50.size; omega, h2⟩)) HIL.out HWL.out).mono ?_; rintro e w7 ⟨rfl, hL7, hK7⟩
              have hNN : ∀ k, New Y w wd k -> New Y w w6 k := fun k hk => New.mono hx56.size k hk
              have hqN : New Y w w6 q := .inl H1.out.qY
              have hpN : New Y w w6 p8 := .inr ⟨hp8, by have := (hx50.trans hx6).size; omega⟩
              have z5 := hK7.cell (hx6.cell (hx50.cell r5)) hqN
              have z0 := hK7.cell (hx6.cell (hx50.cell r0)) hpN
              have z1 := hK7.cell (hx6.cell (hx50.cell r1)) hpN
              have z2 := hK7.cell (hx6.cell (hx50.cell r2)) hpN
              have z3 := hK7.cell (hx6.cell (hx50.cell r3)) hpN))
          have HL6 := qh (hL7.less hNN (fun k hk => .inl (H1.out.sub k (H1.out.old k hk))))
          have HK6 := qh (Keeps.trans (Keeps.of_ext hx56) (hK7.less hNN))
          clear hL7 hK7 hNN z5 z0 z1 z2 z3
          go_wp2_with fail
          go_meet
          exact ⟨W5.renew S.L (S6.image x8.flatten N1), by rw [HLG.out, HF8.out], (by first | rfl | simp), HL6.out, HK6.out⟩
        case rest =>
         obtain ⟨r, hr, rfl, hLr, hKr⟩ := hcut.out
         have hRr := hR2.out
         unfold S6.after at hRr
         rw [<- hr, <- HN1.out] at hRr
         have hnr : r.1.d.n = S.L.d.n := by rw [hr]; exact S6.logs_n S ws
         have hareaR : W5.area r.1.d = W5.area S.L.d := W5.area_same hnr
         have HAREA := qh hareaR
         have HLR := qh hLr
         have HKR := qh hKr
         have hqN : New Y w wd q := .inl H1.out.qY
         have hp8d : p8 < wd.heap.size := World.block_lt_of_cell? wd ⟨p8, 0, none⟩ (HXD.out.cell ((blk_cell HB8.out 0).trans rfl))
         have hpN : New Y w wd p8 := .inr ⟨hp8, hp8d⟩
         have hbq := (Below.block (B := w.heap.size) (HX9.out.trans HXD.out) q (H1.out.lt q H1.out.qY)).trans H1.out.blk
         have hbq2 := blk_mod hbq HKR.out (fun h => h hqN)
         have hbp2 := blk_mod ((Below.block (B := _) HXD.out p8 (blk_lt HB8.out)).trans HB8.out) HKR.out (fun h => h hpN)
         have hxwd := HX9.out.trans HXD.out
         have hKX : Keeps X w wc := Keeps.trans (Keeps.of_ext hxwd) (HKR.out.less (fun k hk => .inl (H1.out.sub k hk)))
         have hqw : q < w.heap.size := H1.out.lt q H1.out.qY
         obtain ⟨lg, ec⟩ := r
         simp only at hRr hLr HLR HAREA ⊢
         clear hcut hr hnr hareaR hLr hKr r0 r1 r2 r3 r5 hbq
         by_cases hec : ec = 0
         ·subst hec
          rw [if_pos rfl] at hRr
          subst hRr
          have k0 : wc.cell? ⟨p8, 0, none⟩ = some (.slice xa8 x8.length xc8) := (blk_cell hbp2 0).trans rfl
          have k1 : wc.cell? ⟨p8, 1, none⟩ = some (.int .i64 (n8 : Int)) := (blk_cell hbp2 1).trans rfl
          have k2 : wc.cell? ⟨p8, 2, none⟩ = some (.int .u64 (N1 : Int)) := (blk_cell hbp2 2).trans rfl
          have k3 : wc.cell? ⟨p8, 3, none⟩ = some (.int .i64 (nd8 : Int)) := (blk_cell hbp2 3).trans rfl
          have hms := mod_setCells (fun z => z = q) wc q 0 [.slice xa8 x8.length xc8, .int .i64 (n8 : Int), .int .u64 (N1 : Int), .int .i64 (nd8 : Int)] rfl
          have hbs := blk_setCells q 89 [.slice xa8 x8.length xc8, .int .i64 (n8 : Int), .int .u64 (N1 : Int), .int .i64 (nd8 : Int)] 0 wc _ hbq2 (by simp)
          have hbs2 : (wc.setCells q 0 [.slice xa8 x8.length xc8, .int .i64 (n8 : Int), .int .u64 (N1 : Int), .int .i64 (nd8 : Int)]).heap[q]? = some (.cells [.slice xa8 x8.length xc8, .int .i64 (n8 : Int), .int .u64 (N1 : Int), .int .i64 (nd8 : Int), .int .i64 (S6.areaS S : Int), .pointer (some ⟨ql, 0, none⟩), .bool S.cl].toArray 89 (0, 0)) := by rw [hbs]; simp
          have kk2 : (wc.setCells q 0 [.slice xa8 x8.length xc8, .int .i64 (n8 : Int), .int .u64 (N1 : Int), .int .i64 (nd8 : Int)]).cell? ⟨q, 2, none⟩ = some (.int .u64 (N1 : Int)) := (blk_cell hbs2 2).trans rfl
          have HTH := qh (there_blk hbq2 0 4 (by simp))
          have HMS := qh hms
          have HBS2 := qh hbs2
          clear hms hbs hbs2 hbq2 hbp2
          go_upto_region 23 with fail
          go_wp2_with (first
           | ((with_reducible show wpList _ _ _ (⟨none, Op.store _ _ _, _, _, _, _⟩ :: _) _ _); refine wpList_store_mid rfl 87 _ _ rfl q 0 #[.slice xa8 x8.length xc8, .int .i64 (n8 : Int), .int .u64 (N1 : Int), .int .i64 (nd8 : Int)] (by rfl) (by rfl) HTH.out (by kernel_rfl) (by simp [Value.oneCell']) ?_)
           | fail)
          go_ret2
          have hZq : ¬ New Z w wd q := fun hz => by
           rcases hz with hz | hz
           ·exact (H1.out.zs q hz).2.2 rfl
           ·omega
          have hnf := hHL.out
          have har2' := har2
          rw [<- HAA.out] at hnf har2'
          refine ⟨rfl, ⟨New Y w wd, New Z w wd, ql, .slice xa8 x8.length xc8, x8, n8, nd8, ?_⟩, ?_⟩
          ·refine ⟨HLR.out.modX HMS.out (fun k hk => hk ▸ hqN) (fun k hk => hk ▸ H1.out.qb), fun k hk => .inl (H1.out.sub k hk), hqN, H1.out.qX, H1.out.qb, H1.out.old, ?_, ?_, ?_, HOK8.out, HF8.out, HN8.out, HD8.out, ?_, hN1l, ?_⟩
           ·have hA : S6.areaS (⟨lg, S6.apl S.l N1 ws, N1, false⟩ : S6.St) = S6.areaS S := by
             show W5.area lg.d = W5.area S.L.d
             rw [HAREA.out, HAA.out]
            rw [hA]
            have := HBS2.out
            rw [hclf] at this
            exact this
           ·exact ((((HI8.out.ext HXD.out).mono (fun k hk => New.mono HXD.out.size k hk)).keeps (HKR.out.less (fun k hk => hk.imp (fun h => (H1.out.zs k h).1) id))).keeps (HMS.out.mono (fun k hk hz => hZq (by rw [<- hk]; exact hz))))
           ·intro k hk
            rcases hk with hk | hk
            ·exact ⟨.inl (H1.out.zs k hk).1, (H1.out.zs k hk).2.1, (H1.out.zs k hk).2.2⟩
            ·exact ⟨.inr hk, fun hx => by have := HXW.out k hx; omega, by omega⟩
           ·exact S6.apl_pok (m := N1) (fun p hp => (H1.out.pk p hp).le (by have := HN1.out; omega)) HG.out.ok (Nat.le_refl _)
           ·have := S6.len_le_needs (S6.apl S.l N1 ws)
            rw [<- HD8.out] at this
            show (S6.apl S.l N1 ws).length <= 200000
            omega
          ·exact hKX.trans (HMS.out.mono (fun k hk hx => H1.out.qX (by rw [<- hk]; exact hx)))
         ·rw [if_neg hec] at hRr
          subst hRr
          have hecb : ((ec : Int) != 0) = true := by rw [bne_iff_ne]; exact hec
          have k6 : wc.cell? ⟨q, 6, none⟩ = some (.bool S.cl) := (blk_cell hbq2 6).trans rfl
          have k6f := blk_free hbq2 6
          have HBQ := qh hbq2
          have hms := Mod.setCell (F := fun z => z = q) wc ⟨q, 6, none⟩ (.bool (decide (ec = 3))) rfl
          have HMS := qh hms
          have hdb : ((ec : Int) == 3) = decide (ec = 3) := by rw [Bool.eq_iff_iff]; simp
          have HDB := qh hdb
          generalize hbb : decide (ec = 3) = bb at *
          have HBBB := qh hbb
          clear hms hbq2 hbp2 hbb
          go_wp2
          go_ret2
          refine ⟨rfl, ⟨New Y w wd, Z, ql, .slice xa x.length xc, x, n, nd, ?_⟩, ?_⟩
          ·refine ⟨HLR.out.modX HMS.out (fun k hk => hk ▸ hqN) (fun k hk => hk ▸ H1.out.qb), fun k hk => .inl (H1.out.sub k hk), hqN, H1.out.qX, H1.out.qb, H1.out.old, ?_, ?_, fun k hk => ⟨.inl (H1.out.zs k hk).1, (H1.out.zs k hk).2⟩, H1.out.ok, H1.out.fl, H1.out.nn, H1.out.dd, H1.out.pk, H1.out.nm, H1.out.ln⟩
           ·have hA : S6.areaS (⟨lg, S.l, S.num, decide (ec = 3)⟩ : S6.St) = S6.areaS S := by
             show W5.area lg.d = W5.area S.L.d
             rw [HAREA.out, HAA.out]
            dsimp only
            rw [hA, HBBB.out]
            exact blk_set HBQ.out 6 _
           ·exact (((H1.out.idx.ext hxwd).keeps (HKR.out.less (fun k hk => .inl (H1.out.zs k hk).1))).keeps (HMS.out.mono (fun k hk hz => (H1.out.zs k hz).2.2 hk)))
          ·exact hKX.trans (HMS.out.mono (fun k hk hx => H1.out.qX (by rw [<- hk]; exact hx)))
--@@END
end
end Go.Proofs.YtnjfioikpajhlaaGreat
