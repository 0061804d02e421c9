/- The walk of WalPlays. (Printed by tools/mkplays5.py.) -/
import Derived.Test.YtmcmocakfhedfaaWOpens
import Derived.Test.YtmcmocakfhedfaaAlist
import Derived.Test.YtmcmocakfhedfaaWalW
import Derived.Test.YtmcmocakfhedfaaBools
namespace Go.Proofs.Ytmcmocakfhedfaa
open Go.RowKit

theorem Logd.poke {F : Nat → Prop} {w0 w w' : World} {X : Nat → Prop} {p q : Nat} {L : W5.Lg} (h : Logd w0 w X p q L) (hm : Mod F w w') (hF : ∀ k, F k → X k ∧ w0.heap.size ≤ k) : Logd w0 w' X p q L := (h.mod_in hm hF).less (fun _ hk => .inl hk) h.old
theorem RefL.store8 {w w' : World} {X : Nat → Prop} {L : W5.Lg} {r : Ref4} {sv wv lv : Value} (h : RefL w X L r sv wv lv) {b : Nat} {A : Array Value} {fr : Nat × Nat} (hb : w.heap[b]? = some (.cells A 5 fr)) (hm : Mod (fun k => k = b) w w') : RefL w' X L r sv wv lv := by
  have ne : ∀ {e1 : TypeId} {base n size : Nat} {v : Value} {xs : List Value}, e1 ≠ 5 → w.ownsRow base e1 size v n xs → ∀ k, v.ownBlock = some k → ¬ k = b := by
    intro e1 base n size v xs he ho k hk e
    subst e
    obtain ⟨cs, f, h2⟩ := own_at ho hk
    rw [hb] at h2
    have h3 : (5 : TypeId) = e1 := by injection (Option.some.inj h2)
    exact he h3.symm
  exact ⟨⟨h.at_.safe.keeps hm (ne (by decide) h.at_.safe), h.at_.wait.keeps hm (ne (by decide) h.at_.wait), h.at_.sX, h.at_.wX⟩, h.rel, ownsRow_mod h.row hm (ne (by decide) h.row), h.rowX⟩
theorem fresh_again (n : Int) : D.restart (D.fresh n) [] = D.fresh n := rfl
theorem good_of {w0 w : World} {X : Nat → Prop} {p q : Nat} {L : W5.Lg} (h : Logd w0 w X p q L) : W5.Good L := ⟨h.ok.n1, h.ok.n2, h.fit, h.len, h.gen⟩
/-- The state of WalPlays: the log, the document's log, its variable. -/
structure PSt (w1 wr : World) (p mb : Nat) (X : Nat → Prop) (q : Nat) (L : W5.Lg) (r : Ref4) (sv wv lv : Value) (N : Nat) : Prop where
  log : Logd w1 wr X p q L
  ref : RefL wr X L r sv wv lv
  box : wr.heap[mb]? = some (.cells #[.int .i64 r.n, sv, wv, .bool r.armed, .bool r.down, .int .i64 r.after, .int .u32 (L.gen : Int), lv, .bool L.cl] 63 (0, 0))
  xm : X mb
  hm : w1.heap.size ≤ mb
  len : R4.len r ≤ N
theorem PSt.after {w1 wr v : World} {p mb : Nat} {X : Nat → Prop} {q : Nat} {L : W5.Lg} {r : Ref4} {sv wv lv : Value} {N : Nat} (h : PSt w1 wr p mb X q L r sv wv lv N) (hx : Ext wr v) : PSt w1 v p mb X q L r sv wv lv N :=
  ⟨h.log.after hx, h.ref.ext hx, blk_mod (F := fun _ => False) h.box (Mod.of_ext hx) (fun h => h), h.xm, h.hm, h.len⟩
theorem PSt.all {w1 wr v : World} {p mb : Nat} {X : Nat → Prop} {q : Nat} {L : W5.Lg} {r : Ref4} {sv wv lv : Value} {N : Nat} (h : PSt w1 wr p mb X q L r sv wv lv N) (hx : Ext wr v) : PSt w1 v p mb (New X wr v) q L r sv wv lv N :=
  ⟨h.log.all hx, (h.ref.ext hx).more (fun _ hk => .inl hk), blk_mod (F := fun _ => False) h.box (Mod.of_ext hx) (fun h => h), .inl h.xm, h.hm, h.len⟩
/-- A cell of a block that was made since has turned. -/
theorem PSt.fresh {w1 wr v v' : World} {p mb : Nat} {X : Nat → Prop} {q : Nat} {L : W5.Lg} {r : Ref4} {sv wv lv : Value} {N g : Nat} (h : PSt w1 wr p mb X q L r sv wv lv N) (hx : Ext wr v) (hg : wr.heap.size ≤ g) (hl : g < v.heap.size) (hm : Mod (fun k => k = g) v v') : PSt w1 v' p mb (New X wr v) q L r sv wv lv N := by
  have h2 := h.all hx
  have hX : ∀ k, X k → k < wr.heap.size := fun k hk => h.log.held.lt k hk
  have hb := blk_lt h.box
  have hs := h.log.held.ext.size
  refine ⟨h2.log.poke hm (fun k e => by subst e; exact ⟨.inr ⟨hg, hl⟩, Nat.le_trans hs hg⟩), ⟨⟨?_, ?_, h2.ref.at_.sX, h2.ref.at_.wX⟩, h2.ref.rel, ?_, h2.ref.rowX⟩, blk_mod h2.box hm (by omega), h2.xm, h2.hm, h2.len⟩
  · exact h2.ref.at_.safe.keeps hm (fun k hk e => by subst e; have := hX _ (h.ref.at_.sX _ hk); omega)
  · exact h2.ref.at_.wait.keeps hm (fun k hk e => by subst e; have := hX _ (h.ref.at_.wX _ hk); omega)
  · exact ownsRow_mod h2.ref.row hm (fun k hk e => by subst e; have := hX _ (h.ref.rowX _ hk); omega)
/-- A byte of a row of the walk's own has turned. -/
theorem PSt.byte {w1 wr : World} {p mb : Nat} {X : Nat → Prop} {q : Nat} {L : W5.Lg} {r : Ref4} {sv wv lv : Value} {N g j : Nat} {A : Array Value} {fr : Nat × Nat} (h : PSt w1 wr p mb X q L r sv wv lv N) (hb : wr.heap[g]? = some (.cells A 5 fr)) (hg : X g) (h0 : w1.heap.size ≤ g) (u : Value) :
    PSt w1 (wr.setCell ⟨g, j, none⟩ u) p mb X q L r sv wv lv N := by
  have hm : Mod (fun k => k = g) wr (wr.setCell ⟨g, j, none⟩ u) := Mod.setCell wr _ _ rfl
  refine ⟨h.log.poke hm (fun k e => by subst e; exact ⟨hg, h0⟩), h.ref.store8 hb hm, blk_mod h.box hm (fun e => ?_), h.xm, h.hm, h.len⟩
  subst e
  have h2 := h.box
  rw [hb] at h2
  have h3 : (5 : TypeId) = 63 := by injection (Option.some.inj h2)
  exact absurd h3 (by decide)

set_option maxRecDepth 100000 in
set_option maxHeartbeats 12800000 in
theorem walk_walPlays (n : Int) (sv : Value) (l : List Act5) (w : World) (_hn : (Lit.int .i64 n).wf = true) (hs : ActsIn w sv l) :
    Calls Try.prog 9 #[.int .i64 n, sv] w fun e w' => e = .returned (.bool true) ∧ Ext w w' := by
  obtain ⟨a, cap, rfl, _⟩ := hs.shape
  have HS := Lib.hid hs
  clear hs
  by_cases hl : 40 < l.length
  · have hli : (40 : Int) < (l.length : Int) := by omega
    clear hl
    go_enter Try.func9, Try.ntmps9
    go_wp2_with fail
    refine (awake5 w).mono ?_
    rintro e w1 ⟨rfl, hx1⟩
    have HX := Lib.hid hx1
    clear hx1
    go_wp2
    go_ret
    exact ⟨rfl, HX.out⟩
  · have hli : (l.length : Int) ≤ 40 := by omega
    have hli2 : decide ((40 : Int) < (l.length : Int)) = false := decide_eq_false (by omega)
    have HLN : Hid (l.length ≤ 40) := by unfold Hid; omega
    go_enter Try.func9, Try.ntmps9
    go_wp2_with fail
    refine (awake5 w).mono ?_
    rintro e w1 ⟨rfl, hx1⟩
    have HX1 := Lib.hid hx1
    clear hx1 hl
    dsimp only
    go_wp2_with fail
    by_cases hn1 : n < 1
    · refine (disk_new_bad n w1 (.inl hn1)).mono ?_
      rintro e w2 ⟨rfl, rfl⟩
      go_wp2
      go_ret
      exact ⟨rfl, HX1.out⟩
    · by_cases hn2 : 4096 < n
      · have hn1d : decide (n < 1) = false := decide_eq_false hn1
        refine (disk_new_bad n w1 (.inr hn2)).mono ?_
        rintro e w2 ⟨rfl, rfl⟩
        clear hn1
        go_wp2
        go_ret
        exact ⟨rfl, HX1.out⟩
      · refine (held_new n w1 (by omega) (by omega)).mono ?_
        rintro e w2 ⟨rfl, hh⟩
        have HOK := Lib.hid hh.okd
        have HOL := Lib.hid hh.old
        have HEX := Lib.hid hh.ext
        have hR : RefAt w2 (fun k => k < w1.heap.size) ⟨n, [], [], false, false, 0⟩ (.slice none 0 0) (.slice none 0 0) := ⟨RowIn.nil _, RowIn.nil _, fun k hk => by simp [Value.ownBlock] at hk, fun k hk => by simp [Value.ownBlock] at hk⟩
        have HAG := Lib.hid (again_any hh hR (Rel.fresh n) (by show (0 : Nat) + 0 ≤ _; omega) (.slice none 0 0) [] (Reads.nil w2) (.inl rfl))
        rw [fresh_again] at HAG
        unfold rv at HAG
        simp only at HAG
        have hs2 := hh.ext.size
        generalize w1.heap.size + 1 = p at *
        clear hh hR
        dsimp only
        go_wp2_with fail
        refine HAG.out.mono ?_
        clear HAG
        rintro e w3 hag
        by_cases hn4 : n < 4
        · have hop : (W5.open_ (D.fresh n)).2 = 1 := by unfold W5.open_; rw [if_pos (show (D.fresh n).n < 4 from hn4)]
          have hn4d : decide (4 ≤ n) = false := decide_eq_false (by omega)
          rcases hag with ⟨h9, _⟩ | ⟨_, r3, sv3, wv3, lv3, g3, cl3, rfl, ⟨ua, un, uc, hs3⟩, ⟨va, vn, vc, hs4⟩, ⟨za, zn, zc, hs5⟩, hk7⟩
          · rw [hop] at h9; exact absurd h9 (by decide)
          · subst hs3
            subst hs4
            subst hs5
            unfold lgv
            have HX3 := Lib.hid (HX1.out.trans (ext_of_keeps HEX.out HOL.out hk7))
            clear hk7 hop hn1 hn2 HOK hs2
            have HZ8 : Hid ((w3.alloc (.cells #[.int .i64 0, .slice none 0 0, .slice none 0 0, .bool false, .bool false, .int .i64 0, .int .u32 0, .slice none 0 0, .bool false] 63)).heap[w3.heap.size]? = some (.cells #[.int .i64 0, .slice none 0 0, .slice none 0 0, .bool false, .bool false, .int .i64 0, .int .u32 0, .slice none 0 0, .bool false] 63 (0, 0))) := heap_alloc_new w3 _
            go_upto_region 9 with (first
              | ((with_reducible show wpList _ _ _ (⟨none, Op.store _ (Operand.tmp 8) _, _, _, _, _⟩ :: _) _ _); refine wpl_store_all _ rfl 63 _ _ rfl w3.heap.size 63 [_, _, _, _, _, _, _, _, _] HZ8.out rfl [.int .i64 r3.n, .slice ua un uc, .slice va vn vc, .bool r3.armed, .bool r3.down, .int .i64 r3.after, .int .u32 (g3 : Int), .slice za zn zc, .bool cl3] rfl rfl size_l5 (by simp [Value.oneCell']) ?_; intro w5 hbn hmn hszn; have HX5 := Lib.hid (hmn.ext (HX3.out.trans (Ext.of_alloc w3 (.cells #[.int .i64 0, .slice none 0 0, .slice none 0 0, .bool false, .bool false, .int .i64 0, .int .u32 0, .slice none 0 0, .bool false] 63))) (fun k e => by have := HX3.out.size; omega)); clear hbn hmn hszn)
              | fail)
            clear HZ8
            go_wp2
            refine wp_loop_rounds 1 ?_
            rw [rounds_succ]
            go_wp2
            all_goals (go_ret; exact ⟨rfl, HX5.out⟩)
        · have hn4d : decide (4 ≤ n) = true := decide_eq_true (by omega)
          obtain ⟨hz, _⟩ := W5.fresh_open (show 4 ≤ n by omega) HOK.out
          · obtain ⟨_, X', q, r3, sv3, wv3, lv3, rfl, hsub, hlg, hrl, hlb, hk7⟩ := Or.resolve_right hag (fun h9 => h9.1 hz)
            obtain ⟨ua, un, uc, hs3⟩ := hrl.at_.safe.any
            obtain ⟨va, vn, vc, hs4⟩ := hrl.at_.wait.any
            obtain ⟨za, zc, hs5⟩ := str_shape (Reads.of_own hrl.row (str_one _))
            subst hs3
            subst hs4
            subst hs5
            unfold lgv
            clear hz hn1 hn2 hn4 hsub hk7 HOK HEX HOL hs2
            generalize (W5.open_ (D.fresh n)).1 = L0 at *
            generalize L0.recs.length = zn at *
            have HZ8 : Hid ((w3.alloc (.cells #[.int .i64 0, .slice none 0 0, .slice none 0 0, .bool false, .bool false, .int .i64 0, .int .u32 0, .slice none 0 0, .bool false] 63)).heap[w3.heap.size]? = some (.cells #[.int .i64 0, .slice none 0 0, .slice none 0 0, .bool false, .bool false, .int .i64 0, .int .u32 0, .slice none 0 0, .bool false] 63 (0, 0))) := heap_alloc_new w3 _
            have HX4 := Lib.hid (Ext.of_alloc w3 (.cells #[.int .i64 0, .slice none 0 0, .slice none 0 0, .bool false, .bool false, .int .i64 0, .int .u32 0, .slice none 0 0, .bool false] 63))
            have HLG := Lib.hid hlg
            have HRL := Lib.hid hrl
            have HLB := Lib.hid hlb
            clear hlg hrl hlb
            go_upto_region 9 with (first
              | ((with_reducible show wpList _ _ _ (⟨none, Op.store _ (Operand.tmp 8) _, _, _, _, _⟩ :: _) _ _); refine wpl_store_all _ rfl 63 _ _ rfl w3.heap.size 63 [_, _, _, _, _, _, _, _, _] HZ8.out rfl [.int .i64 r3.n, .slice ua un uc, .slice va vn vc, .bool r3.armed, .bool r3.down, .int .i64 r3.after, .int .u32 (L0.gen : Int), .slice za zn zc, .bool L0.cl] rfl rfl size_l5 (by simp [Value.oneCell']) ?_; intro w5 hbn hmn hszn; have HB5 := Lib.hid hbn; have HM5 := Lib.hid hmn; clear hbn hmn hszn)
              | fail)
            have hlt3 : w3.heap.size < (w3.alloc (.cells #[.int .i64 0, .slice none 0 0, .slice none 0 0, .bool false, .bool false, .int .i64 0, .int .u32 0, .slice none 0 0, .bool false] 63)).heap.size := by rw [World.size_alloc]; omega
            have HST : Hid (PSt w1 w5 p w3.heap.size (New X' w3 (w3.alloc (.cells #[.int .i64 0, .slice none 0 0, .slice none 0 0, .bool false, .bool false, .int .i64 0, .int .u32 0, .slice none 0 0, .bool false] 63))) q L0 r3 (.slice ua un uc) (.slice va vn vc) (.slice za zn zc) (2100 * (0 + 1))) :=
              ⟨(HLG.out.all HX4.out).poke HM5.out (fun k e => by subst e; exact ⟨.inr ⟨Nat.le_refl _, hlt3⟩, HLG.out.held.ext.size⟩), (((HRL.out.ext HX4.out).store5 HZ8.out HM5.out).more (fun _ hk => .inl hk)), HB5.out, .inr ⟨Nat.le_refl _, hlt3⟩, HLG.out.held.ext.size, Nat.le_trans HLB.out (by show 0 + 0 + 2048 ≤ _; omega)⟩
            clear HZ8 HX4 HLG HRL HLB HB5 HM5 hlt3
            generalize w3.heap.size = mb at *
            generalize New X' w3 _ = X0 at HST
            go_wp2
            go_loopw [7, 9, 10, 11] (fun lp okv samev iv wr => ∃ k : Nat, k ≤ l.length ∧ iv = .int .i64 (k : Int) ∧ samev = .bool true ∧ ((okv = .bool false ∧ (∃ x, lp = .pointer x) ∧ Hid (Ext w wr)) ∨ (okv = .bool true ∧ ∃ (X : Nat → Prop) (q : Nat) (L : W5.Lg) (r : Ref4) (pa qa la : Option Addr) (pn pc qn qc ln lc : Nat), lp = .pointer (some ⟨q, 0, none⟩) ∧ Hid (PSt w1 wr p mb X q L r (.slice pa pn pc) (.slice qa qn qc) (.slice la ln lc) (2100 * (k + 1)))))) (fun _ _ _ iv _ => l.length - (intOf iv).toNat)
            case atStart => exact ⟨0, by omega, rfl, rfl, .inr ⟨rfl, X0, q, L0, r3, _, _, _, _, _, _, _, _, _, rfl, HST⟩⟩
            case round =>
              clear HST
              obtain ⟨k, hk, rfl, rfl, hok⟩ := hrel
              rcases hok with ⟨rfl, ⟨x9, rfl⟩, hx9⟩ | ⟨rfl, X, q, L, r, pa, qa, la, pn, pc, qn, qc, ln, lc, rfl, hst⟩
              · by_cases hlt : k < l.length
                · have hlti : (k : Int) < (l.length : Int) := by omega
                  clear hlt
                  go_wp2
                  all_goals (go_ret; exact ⟨rfl, hx9.out⟩)
                · have hlti : decide (k < l.length) = false := decide_eq_false hlt
                  clear hlt
                  go_wp2
                  all_goals (go_ret; exact ⟨rfl, hx9.out⟩)
              · by_cases hlt : k < l.length
                · have hlti : (k : Int) < (l.length : Int) := by omega
                  have hlk : k < 40 := by have := HLN.out; omega
                  have HST := hst
                  clear hst
                  have hXW := Lib.hid (HX1.out.trans HST.out.log.held.ext)
                  obtain ⟨b, off, rfl, hact⟩ := HS.out.at k hlt
                  generalize l[k] = x at *
                  obtain ⟨kind, xi, xn, size, data, keep, mask⟩ := x
                  obtain ⟨dv0, kv0, _, _, _, _, g40, g50, _, hbd0, hbk0, _⟩ := id hact
                  obtain ⟨dv, kv, g0, g1, g2, g3, g4, g5, g6, hbd, hbk, w1', w2', w3', w4'⟩ := hact.ext hXW.out
                  simp only at g0 g1 g2 g3 g4 g5 g6 hbd hbk g50 hbk0 w1' w2' w3' w4'
                  have hkv0 : kv0 = kv := Option.some.inj ((Ext.cell hXW.out g50).symm.trans g5)
                  have HKX := Lib.hid (show (keep.map Value.bool) = [] ∨ ∀ k, kv.ownBlock = some k → k < w1.heap.size from by
                    rw [← hkv0]
                    exact (Reads.block_lt hbk0).imp id (fun h k hk => Nat.lt_of_lt_of_le (h k hk) HX1.out.size))
                  obtain ⟨da, dc, rfl⟩ := hbd.shape
                  obtain ⟨ka, kc, hkv⟩ := hbk.shape
                  rw [List.length_map] at hkv
                  subst hkv
                  have HBD := Lib.hid hbd
                  have HBK := Lib.hid hbk
                  have HW2 := Lib.hid w2'
                  have HW1 := Lib.hid w1'
                  have HW4 := Lib.hid w4'
                  have hdl := hbd.length_le
                  clear hact hbk w1' w2' w3' w4' g40 g50 hbd0 hbk0 hkv0 hbd
                  by_cases k0 : kind = 0
                  · as_aux_lemma =>
                      subst k0
                      have hx0 := Ext.of_alloc wr (.cells #[.int .i64 0, .int .i64 xi, .int .i64 xn, .int .i64 size, .slice da data.length dc, .slice ka keep.length kc, .int .u8 mask] 70)
                      go_wp2_with fail
                      refine (record_any _ data size _ (HBD.out.ext hx0)).mono ?_
                      rintro e w5 ⟨v5, rfl, hown5, hx5⟩
                      have HX5 := Lib.hid (hx0.trans hx5)
                      have hbw5 := hx0.size
                      generalize (wr.alloc (.cells #[.int .i64 0, .int .i64 xi, .int .i64 xn, .int .i64 size, .slice da data.length dc, .slice ka keep.length kc, .int .u8 mask] 70)).heap.size = BB at *
                      have HB5 := Lib.hid (hown5.lt)
                      have hcv := (Bs.of_own hown5).toString (P := Try.prog) 31 9 5 Try.underlying31 Try.underlying5 Try.underlying9
                      have hSl : (W5.record data size).length ≤ 10000 := by rw [W5.record_len]; exact W5.recN_le _
                      generalize W5.record data size = S at *
                      have HOW := Lib.hid hown5
                      obtain ⟨va, vc, rfl⟩ := (Bs.of_own hown5).shape
                      have HST5 := Lib.hid (HST.out.all HX5.out)
                      have HAPP : Hid (∀ (v : World) (X' : Nat → Prop), Logd w1 v X' p q L → Bs v (.slice va S.length vc) S → (∀ k, (Value.slice va S.length vc).ownBlock = some k → X' k) → Calls Try.prog 17 #[.pointer (some ⟨q, 0, none⟩), .slice va S.length vc] v fun e w' => e = .returned (.int .i64 (W5.append L S).2) ∧ Logd w1 w' X' p q (W5.append L S).1 ∧ Keeps X' v w') := fun v X' hl hb hX => append_any hl _ S hb hX (by have h1 := HST.out.ref.rel.wait; have h2 := HST.out.len; unfold R4.len at h2; rw [h1]; omega)
                      have hAP := refAppend L r (New X wr w5) (.slice pa pn pc) (.slice qa qn qc) (.slice la ln lc) S w5 HST5.out.ref (good_of HST5.out.log) (by have := HST.out.len; omega) (by omega)
                      unfold lgv at hAP
                      have HC := Lib.hid hAP
                      generalize W5.append L S = AE at *
                      obtain ⟨L2, c2⟩ := AE
                      simp only at HC HAPP
                      clear hAP hown5 hx5 hx0 g0 g1 g2 g3 g4 g5 g6
                      obtain ⟨c0, c1, cc2, c3, c4, c5, c6, c7, c8, _⟩ := nine_facts HST5.out.box
                      go_wp2_with fail
                      refine HC.out.mono ?_
                      clear HC
                      rintro e w6 ⟨r2, s3, s4, s5, rfl, hl6, hlb6, hx6⟩
                      unfold lgv
                      obtain ⟨xa, xn9, xc, hs3⟩ := hl6.at_.safe.any
                      obtain ⟨ya, yn, yc, hs4⟩ := hl6.at_.wait.any
                      obtain ⟨za, zc, hs5⟩ := str_shape (Reads.of_own hl6.row (str_one _))
                      subst hs3
                      subst hs4
                      subst hs5
                      generalize L2.recs.length = zn at *
                      have HXA := Lib.hid (HX5.out.trans hx6)
                      have HLA := Lib.hid (HST.out.log.all HXA.out)
                      have HRA := Lib.hid (hl6.more (new_new HX5.out hx6))
                      have HB6 := Lib.hid (blk_mod (F := fun _ => False) HST.out.box (Mod.of_ext HXA.out) (fun h => h))
                      have HO6 := Lib.hid (hx6.keptOwn HOW.out)
                      have HXM := Lib.hid (show New X wr w6 mb from .inl HST.out.xm)
                      have HVX := Lib.hid (show ∀ k, (Value.slice va S.length vc).ownBlock = some k → New X wr w6 k from fun k hk => .inr ⟨Nat.le_trans hbw5 (HB5.out k hk).1, Nat.lt_of_lt_of_le (HB5.out k hk).2 hx6.size⟩)
                      have HVW := Lib.hid (show ∀ k, (Value.slice va S.length vc).ownBlock = some k → w1.heap.size ≤ k from fun k hk => Nat.le_trans HST.out.log.held.ext.size (Nat.le_trans hbw5 (HB5.out k hk).1))
                      have hl2 : R4.len r2 ≤ 2100 * (k + 1 + 1) := by have := HST.out.len; omega
                      have HMB := Lib.hid HST.out.hm
                      clear hl6 hx6 hlb6 HXA HST HST5 HOW HX5 HB5 hbw5 hcv c0 c1 cc2 c3 c4 c5 c6 c7 c8
                      generalize New X wr w6 = XA at *
                      go_upto_region 23 with (first
                        | ((with_reducible show wpList _ _ _ (⟨none, Op.store _ (Operand.tmp 8) _, _, _, _, _⟩ :: _) _ _); refine wpl_store_all _ rfl 63 _ _ rfl mb 63 [_, _, _, _, _, _, _, _, _] HB6.out rfl [.int .i64 r2.n, .slice xa xn9 xc, .slice ya yn yc, .bool r2.armed, .bool r2.down, .int .i64 r2.after, .int .u32 (L2.gen : Int), .slice za zn zc, .bool L2.cl] rfl rfl size_l5 (by simp [Value.oneCell']) ?_; intro w7 hbn hmn hszn; have HB7 := Lib.hid hbn; have HM7 := Lib.hid hmn; clear hbn hmn hszn)
                        | fail)
                      have HL7 := Lib.hid (HLA.out.poke HM7.out (fun k e => by subst e; exact ⟨HXM.out, HMB.out⟩))
                      have HR7 := Lib.hid (HRA.out.store5 HB6.out HM7.out)
                      have HO7 := Lib.hid (ownsRow_mod HO6.out HM7.out (own_ne HO6.out HB6.out (by decide)))
                      clear HLA HRA HB6 HO6 HM7
                      go_wp2_with fail
                      refine (HAPP.out w7 XA HL7.out (Bs.of_own HO7.out) HVX.out).mono ?_
                      clear HAPP
                      rintro e w8 ⟨rfl, hL8, hK8⟩
                      have HS8 : Hid (PSt w1 w8 p mb XA q L2 r2 (.slice xa xn9 xc) (.slice ya yn yc) (.slice za zn zc) (2100 * (k + 1 + 1))) := ⟨hL8, HR7.out.keeps hK8, blk_mod HB7.out hK8 (fun hn => hn HXM.out), HXM.out, HMB.out, hl2⟩
                      have HO8 := Lib.hid (hK8.own HO7.out HVX.out)
                      clear hL8 hK8 HL7 HR7 HB7 HO7
                      have hSi : (S.length : Int) ≤ 10000 := by omega
                      generalize S.length = N at *
                      dsimp only
                      go_wp2
                      go_loopw [16] (fun jv wz => ∃ j : Nat, j ≤ N ∧ jv = .int .i64 (j : Int) ∧ (∃ xs, Hid (wz.ownsRow BB 5 1 (.slice va N vc) N xs)) ∧ Hid (PSt w1 wz p mb XA q L2 r2 (.slice xa xn9 xc) (.slice ya yn yc) (.slice za zn zc) (2100 * (k + 1 + 1)))) (fun jv _ => N - (intOf jv).toNat)
                      case atStart => exact ⟨0, by omega, rfl, ⟨_, HO8⟩, HS8⟩
                      case round =>
                        clear HO8 HS8
                        obtain ⟨j, hj, rfl, ⟨xs, hoz⟩, hsz⟩ := hrel
                        by_cases hltj : j < N
                        · have hltji : (j : Int) < (N : Int) := by omega
                          obtain ⟨g, rfl⟩ : ∃ g, va = some ⟨g, 0, none⟩ := by
                            rcases own_shape hoz.out with ⟨a, c, h1, h2⟩ | ⟨g, c, h1, _, _⟩
                            · omega
                            · exact ⟨g, (Value.slice.inj h1).1⟩
                          have hxl : j < xs.length := by have := hoz.out.1; omega
                          have hcell := hoz.out.cellAt j (by omega)
                          rw [List.getElem?_eq_getElem hxl] at hcell
                          have hfro := hoz.out.frozenAt j
                          obtain ⟨cs9, fr9, hb9⟩ := own_at hoz.out (k := g) rfl
                          have HO9 := Lib.hid (hoz.out.stored j (.int .u8 221)).1
                          have HS9 := Lib.hid (hsz.out.byte (j := j) hb9 (HVX.out g rfl) (HVW.out g rfl) (.int .u8 221))
                          generalize xs[j] = old at hcell
                          clear hoz hsz hxl hb9
                          go_wp2
                          go_roundw
                          case rel => exact ⟨j + 1, by omega, by go_num, ⟨_, HO9⟩, HS9⟩
                          case measure => (simp [intOf]; try omega)
                        · obtain rfl : j = N := by omega
                          have HS9 := hsz
                          clear hoz hsz
                          have HTL := Lib.hid (tells5 HS9.out.log HS9.out.ref)
                          unfold lgv at HTL
                          have hcc : (c2 != c2) = false := by simp
                          obtain ⟨c0, c1, cc2, c3, c4, c5, c6, c7, c8, _⟩ := nine_facts HS9.out.box
                          go_wp2_with fail
                          refine HTL.out.mono ?_
                          clear HTL
                          rintro e w20 ⟨rfl, hx20⟩
                          have HS20 := Lib.hid (HS9.out.after hx20)
                          clear hx20 HS9 c0 c1 cc2 c3 c4 c5 c6 c7 c8 hcc
                          go_wp2
                          go_roundw
                          case rel => exact ⟨k + 1, by omega, by go_num, rfl, .inr ⟨rfl, _, q, L2, r2, _, _, _, _, _, _, _, _, _, rfl, HS20⟩⟩
                          case measure => (simp [intOf]; try omega)
                  · have k0b : (kind == 0) = false := by rw [beq_eq_false_iff_ne]; exact k0
                    clear k0
                    by_cases k1 : kind = 1
                    · as_aux_lemma =>
                        subst k1
                        have hx0 := Ext.of_alloc wr (.cells #[.int .i64 1, .int .i64 xi, .int .i64 xn, .int .i64 size, .slice da data.length dc, .slice ka keep.length kc, .int .u8 mask] 70)
                        have hli5 := list_any 1 xi xn size mask (.slice da data.length dc) (.slice ka keep.length kc) data _ (HBD.out.ext hx0)
                        have hbw5 := hx0.size
                        generalize hBB : (wr.alloc (.cells #[.int .i64 1, .int .i64 xi, .int .i64 xn, .int .i64 size, .slice da data.length dc, .slice ka keep.length kc, .int .u8 mask] 70)).heap.size = BB at *
                        have HLI := Lib.hid hli5
                        have hal : (W5.alist data size).length ≤ 12 := by rw [W5.alist_len]; omega
                        have hab : ∀ b ∈ W5.alist data size, b.length ≤ 1000000 := fun b hb => Nat.le_trans (W5.alist_le data size b hb) (by decide)
                        clear hli5 hBB
                        generalize W5.alist data size = AL at *
                        go_wp2_with fail
                        refine HLI.out.mono ?_
                        clear HLI
                        rintro e w5 ⟨v5, vs5, rfl, hR5, hx5⟩
                        have HX5 := Lib.hid (hx0.trans hx5)
                        have HR5 := Lib.hid hR5
                        have HST5 := Lib.hid (HST.out.after HX5.out)
                        have HTX : Hid (∀ v : World, Ext w5 v → Calls Try.prog 21 #[v5] v fun e w' => ∃ v', e = .returned v' ∧ w'.ownsRow v.heap.size 9 1 v' AL.length (AL.map strV) ∧ Ext v w') := fun v hx => texts_any v5 AL v ((hR5.ext hx).rows (X := fun _ => True) (fun _ _ _ => trivial)) (by omega)
                        obtain ⟨va, vc, rfl⟩ : ∃ va vc, v5 = .slice va AL.length vc := by
                          rcases own_shape hR5.row with ⟨a, c, h1, h2⟩ | ⟨g, c, h1, _⟩
                          · exact ⟨a, c, by rw [h1, h2]⟩
                          · exact ⟨_, c, h1⟩
                        have HC : Hid (∀ (v : World) (tv : Value), Ext w5 v → Reads v tv (AL.map strV) → Calls Try.prog 38 #[.agg #[.int .i64 r.n, .slice pa pn pc, .slice qa qn qc, .bool r.armed, .bool r.down, .int .i64 r.after, .int .u32 (L.gen : Int), .slice la ln lc, .bool L.cl], tv] v fun e w' => LogOut v w' (New X wr v) (W5.renew L AL).1 (R4.len r + 2048) (W5.renew L AL).2 e) := fun v tv hx hr => by
                          have := refRenew L r (New X wr v) (.slice pa pn pc) (.slice qa qn qc) (.slice la ln lc) tv AL v (HST.out.all (HX5.out.trans hx)).ref HST.out.log.ok.n1 HST.out.log.ok.n2 HST.out.log.gen (by have := HST.out.len; omega) hr (by omega) hab
                          unfold lgv at this
                          exact this
                        have HREN : Hid (∀ (v : World) (X' : Nat → Prop), Logd w1 v X' p q L → RowsX v X' (.slice va AL.length vc) AL → Calls Try.prog 34 #[.pointer (some ⟨q, 0, none⟩), .slice va AL.length vc] v fun e w' => e = .returned (.int .i64 (W5.renew L AL).2) ∧ Logd w1 w' X' p q (W5.renew L AL).1 ∧ Keeps X' v w') := fun v X' hl hr => renew_any hl _ AL hr (by omega) (by have h1 := HST.out.ref.rel.wait; have h2 := HST.out.len; unfold R4.len at h2; rw [h1]; omega)
                        generalize W5.renew L AL = AE at *
                        obtain ⟨L2, c2⟩ := AE
                        simp only at HC HREN
                        clear hR5 hx5 hx0 g0 g1 g2 g3 g4 g5 g6
                        obtain ⟨c0, c1, cc2, c3, c4, c5, c6, c7, c8, _⟩ := nine_facts HST5.out.box
                        have hHX := Ext.of_drew w5
                        dsimp only
                        go_wp2_with fail
                        have hHeld := hHX
                        refine wp_region_C (fun w' => Ext w5 w') 3 (by kernel_rfl) ?_
                        (refine wpAnyC_take [3] (i := 0) (oi := ⟨some 103, _, _, _, _, _⟩) (v := ?_) rfl (by kernel_rfl) (by kernel_rfl) (by kernel_rfl) (by kernel_rfl) (fun _ _ _ h => h) (Or.inl ⟨by rfl, ?_⟩) hHeld ?_; rotate_left; (focus (intro w hSw; ((have q0 := hSw.cell c0; have q1 := hSw.cell c1; have q2 := hSw.cell cc2; have q3 := hSw.cell c3; have q4 := hSw.cell c4; have q5 := hSw.cell c5; have q6 := hSw.cell c6; have q7 := hSw.cell c7; have q8 := hSw.cell c8)); go_simp; first | done | with_reducible rfl)); try simp only [Act.put, List.setIfInBounds_toArray, List.set_cons_zero, List.set_cons_succ])
                        (refine wpAnyC_take [2, 3] (i := 1) (oi := ⟨some 104, _, _, _, _, _⟩) (v := ?_) rfl (by kernel_rfl) (by kernel_rfl) (by kernel_rfl) (by kernel_rfl) (fun _ _ _ h => h) (Or.inl ⟨by rfl, ?_⟩) hHeld ?_; rotate_left; (focus (intro w hSw; (skip); go_simp; first | done | with_reducible rfl)); try simp only [Act.put, List.setIfInBounds_toArray, List.set_cons_zero, List.set_cons_succ])
                        refine wpAnyC_one (i := 2) (oi := ⟨some 105, _, _, _, _, _⟩) rfl (by kernel_rfl) (by decide) (fun K hK => ?_)
                        rw [if_pos (by rfl)]
                        go_simp
                        refine (HTX.out _ hHeld).mono ?_
                        rintro e wt ⟨tv, rfl, hot, hxt⟩
                        obtain ⟨ta, tc, rfl⟩ := str_shape (Reads.of_own hot (str_one _))
                        have hHeld2 := hHeld.trans hxt
                        refine hK.out _ _ hHeld2 ?_
                        clear hHeld
                        have hHeld := hHeld2
                        clear hHeld2
                        clear hK K
                        try simp only [Act.put, List.setIfInBounds_toArray, List.set_cons_zero, List.set_cons_succ]
                        refine wpAnyC_c (oi := ⟨some 106, _, _, _, _, _⟩) rfl (by kernel_rfl) (fun K hK => ?_)
                        rw [if_pos (by rfl)]
                        go_simp
                        refine (HC.out _ _ hHeld (Reads.of_own hot (str_one _))).mono ?_
                        clear HC
                        rintro e w6 ⟨r2, s3, s4, s5, rfl, hl6, hlb6, hx6⟩
                        unfold lgv
                        refine hK.out _ _ ?_
                        clear hK K
                        try simp only [Act.put, List.setIfInBounds_toArray, List.set_cons_zero, List.set_cons_succ]
                        obtain ⟨xa, xn9, xc, hs3⟩ := hl6.at_.safe.any
                        obtain ⟨ya, yn, yc, hs4⟩ := hl6.at_.wait.any
                        obtain ⟨za, zc, hs5⟩ := str_shape (Reads.of_own hl6.row (str_one _))
                        subst hs3
                        subst hs4
                        subst hs5
                        generalize L2.recs.length = zn at *
                        have HX56 := Lib.hid (hHeld.trans hx6)
                        have hb6 := blk_mod (F := fun _ => False) HST5.out.box (Mod.of_ext HX56.out) (fun h => h)
                        have HRA := Lib.hid (hl6.more (new_new (HX5.out.trans hHeld) hx6))
                        obtain ⟨d0, d1, d2, d3, d4, d5, d6, d7, d8, f0, f1, f2, f3, f4, f5, f6, f7, f8⟩ := nine_facts hb6
                        clear hl6 hx6 hHeld hHX hot hxt
                        (refine wpAny_take (i := 4) (oi := ⟨some 102, _, _, _, _, _⟩) (v := ?_) rfl (by kernel_rfl) (by kernel_rfl) (by kernel_rfl) (fun _ _ _ h => h) (Or.inl ⟨by rfl, ?_⟩) ?_; rotate_left; (focus (intro w; go_simp; first | done | with_reducible rfl)); try simp only [Act.put, List.setIfInBounds_toArray, List.set_cons_zero, List.set_cons_succ])
                        (refine wpAny_take (i := 5) (oi := ⟨some 107, _, _, _, _, _⟩) (v := ?_) rfl (by kernel_rfl) (by kernel_rfl) (by kernel_rfl) (fun _ _ _ h => h) (Or.inl ⟨by rfl, ?_⟩) ?_; rotate_left; (focus (intro w; go_simp; first | done | with_reducible rfl)); try simp only [Act.put, List.setIfInBounds_toArray, List.set_cons_zero, List.set_cons_succ])
                        (refine wpAny_take (i := 6) (oi := ⟨some 108, _, _, _, _, _⟩) (v := ?_) rfl (by kernel_rfl) (by kernel_rfl) (by kernel_rfl) (fun _ _ _ h => h) (Or.inl ⟨by rfl, ?_⟩) ?_; rotate_left; (focus (intro w; go_simp; first | done | with_reducible rfl)); try simp only [Act.put, List.setIfInBounds_toArray, List.set_cons_zero, List.set_cons_succ])
                        refine wpAny_one (i := 7) (oi := ⟨none, _, _, _, _, _⟩) rfl (by kernel_rfl) (fun K hK => ?_)
                        rw [if_pos (by rfl)]
                        refine wp_store_mid 63 _ _ rfl mb 0 #[.int .i64 r2.n, .slice xa xn9 xc, .slice ya yn yc, .bool r2.armed, .bool r2.down, .int .i64 r2.after, .int .u32 (L2.gen : Int), .slice za zn zc, .bool L2.cl] rfl rfl ?_ size_l5 (by simp [Value.oneCell']) ?_
                        · intro j hj
                          have hj' : j < 9 := hj
                          rw [Nat.zero_add]
                          exact ⟨by rcases j with _|_|_|_|_|_|_|_|_|j <;> first | (simp [d0, d1, d2, d3, d4, d5, d6, d7, d8]; done) | omega, by rcases j with _|_|_|_|_|_|_|_|_|j <;> first | assumption | omega⟩
                        have hm9 := mod_setCells (fun k => k = mb) w6 mb 0 [.int .i64 r2.n, .slice xa xn9 xc, .slice ya yn yc, .bool r2.armed, .bool r2.down, .int .i64 r2.after, .int .u32 (L2.gen : Int), .slice za zn zc, .bool L2.cl] rfl
                        have hb9 := blk_setCells mb 63 [.int .i64 r2.n, .slice xa xn9 xc, .slice ya yn yc, .bool r2.armed, .bool r2.down, .int .i64 r2.after, .int .u32 (L2.gen : Int), .slice za zn zc, .bool L2.cl] 0 w6 _ hb6 (by simp)
                        show K _ (w6.setCells mb 0 [.int .i64 r2.n, .slice xa xn9 xc, .slice ya yn yc, .bool r2.armed, .bool r2.down, .int .i64 r2.after, .int .u32 (L2.gen : Int), .slice za zn zc, .bool L2.cl])
                        have hsz7 := size_setCells mb [.int .i64 r2.n, .slice xa xn9 xc, .slice ya yn yc, .bool r2.armed, .bool r2.down, .int .i64 r2.after, .int .u32 (L2.gen : Int), .slice za zn zc, .bool L2.cl] 0 w6
                        generalize w6.setCells mb 0 [.int .i64 r2.n, .slice xa xn9 xc, .slice ya yn yc, .bool r2.armed, .bool r2.down, .int .i64 r2.after, .int .u32 (L2.gen : Int), .slice za zn zc, .bool L2.cl] = w7 at *
                        refine hK.out _ _ ?_
                        clear hK K
                        try simp only [Act.put, List.setIfInBounds_toArray, List.set_cons_zero, List.set_cons_succ]
                        (refine wpAny_take (i := 8) (oi := ⟨some 14, _, _, _, _, _⟩) (v := ?_) rfl (by kernel_rfl) (by kernel_rfl) (by kernel_rfl) (fun _ _ _ h => h) (Or.inl ⟨by rfl, ?_⟩) ?_; rotate_left; (focus (intro w; go_simp; first | done | with_reducible rfl)); try simp only [Act.put, List.setIfInBounds_toArray, List.set_cons_zero, List.set_cons_succ])
                        refine wpAny_done (by kernel_rfl) ?_ _
                        clear d0 d1 d2 d3 d4 d5 d6 d7 d8 f0 f1 f2 f3 f4 f5 f6 f7 f8
                        have HXA := Lib.hid (HX5.out.trans HX56.out)
                        have HXM := Lib.hid (show New X wr w6 mb from .inl HST.out.xm)
                        have HMB := Lib.hid HST.out.hm
                        have HL7 := Lib.hid ((HST.out.log.all HXA.out).poke hm9 (fun k e => by subst e; exact ⟨HXM.out, HMB.out⟩))
                        have HR7 := Lib.hid (HRA.out.store5 hb6 hm9)
                        have HB7 := Lib.hid hb9
                        have HRO6 := Lib.hid (HR5.out.ext HX56.out)
                        have HRO7 := Lib.hid (HRO6.out.mod hm9 (own_ne HRO6.out.row hb6 (by decide)) (fun u hu => by obtain ⟨l9, ho9⟩ := HRO6.out.mem hu; exact own_ne ho9 hb6 (by decide)))
                        have HRX7 := Lib.hid (HRO7.out.rows (X := New X wr w6) (fun k h1 h2 => .inr ⟨Nat.le_trans hbw5 h1, by have h3 : w7.heap.size = w6.heap.size := hsz7; omega⟩))
                        have hl2 : R4.len r2 ≤ 2100 * (k + 1 + 1) := by have := HST.out.len; omega
                        clear HST HST5 HX5 HX56 HXA HRA hb6 hm9 hb9 HRO6 HRO7 HR5 hbw5 hlb6 c0 c1 cc2 c3 c4 c5 c6 c7 c8 HTX
                        generalize New X wr w6 = XA at *
                        go_wp2_with fail
                        refine (HREN.out w7 XA HL7.out HRX7.out).mono ?_
                        clear HREN
                        rintro e w8 ⟨rfl, hL8, hK8⟩
                        have HS9 : Hid (PSt w1 w8 p mb XA q L2 r2 (.slice xa xn9 xc) (.slice ya yn yc) (.slice za zn zc) (2100 * (k + 1 + 1))) := ⟨hL8, HR7.out.keeps hK8, blk_mod HB7.out hK8 (fun hn => hn HXM.out), HXM.out, HMB.out, hl2⟩
                        clear hL8 hK8 HL7 HR7 HB7
                        dsimp only
                        have HTL := Lib.hid (tells5 HS9.out.log HS9.out.ref)
                        unfold lgv at HTL
                        have hcc : (c2 != c2) = false := by simp
                        obtain ⟨c0, c1, cc2, c3, c4, c5, c6, c7, c8, _⟩ := nine_facts HS9.out.box
                        go_wp2_with fail
                        refine HTL.out.mono ?_
                        clear HTL
                        rintro e w20 ⟨rfl, hx20⟩
                        have HS20 := Lib.hid (HS9.out.after hx20)
                        clear hx20 HS9 c0 c1 cc2 c3 c4 c5 c6 c7 c8 hcc
                        go_wp2
                        go_roundw
                        case rel => exact ⟨k + 1, by omega, by go_num, rfl, .inr ⟨rfl, _, q, L2, r2, _, _, _, _, _, _, _, _, _, rfl, HS20⟩⟩
                        case measure => (simp [intOf]; try omega)
                    · have k1b : (kind == 1) = false := by rw [beq_eq_false_iff_ne]; exact k1
                      clear k1
                      by_cases k2 : kind = 2
                      · as_aux_lemma =>
                          subst k2
                          have hx0 := Ext.of_alloc wr (.cells #[.int .i64 2, .int .i64 xi, .int .i64 xn, .int .i64 size, .slice da data.length dc, .slice ka keep.length kc, .int .u8 mask] 70)
                          have HST5 := Lib.hid (HST.out.after hx0)
                          have hAG := again_any HST5.out.log.held HST5.out.ref.at_ HST5.out.ref.rel (by have := HST.out.len; omega) (.slice ka keep.length kc) keep (HBK.out.ext hx0) (HKX.out.imp (fun h => List.map_eq_nil_iff.1 h) (fun h k hk => HST.out.log.held.old k (h k hk)))
                          unfold rv at hAG
                          have HAG := Lib.hid hAG
                          have HX5 := Lib.hid hx0
                          generalize hOO : W5.open_ (D.restart L.d keep) = OO at *
                          obtain ⟨L2, c2⟩ := OO
                          clear hAG hOO
                          obtain ⟨c0, c1, cc2, c3, c4, c5, c6, c7, c8, _⟩ := nine_facts HST5.out.box
                          go_wp2_with fail
                          refine HAG.out.mono ?_
                          clear HAG hx0 g0 g1 g2 g3 g4 g5 g6 c0 c1 cc2 c3 c4 c5 c6 c7 c8
                          rintro e w6 hag
                          rcases hag with ⟨h9, X', q2, r2, s3, s4, s5, rfl, hsub, hlg, hrl, hlb, hk6⟩ | ⟨h9, r2, s3, s4, s5, g2, cl2, rfl, ⟨xa, xn9, xc, hs3⟩, ⟨ya, yn, yc, hs4⟩, ⟨za, zn, zc, hs5⟩, hk6⟩
                          · replace hlg : Logd w1 _ X' p q2 L2 := hlg
                            replace hrl : RefL _ X' L2 r2 s3 s4 s5 := hrl
                            obtain ⟨xa, xn9, xc, hs3⟩ := hrl.at_.safe.any
                            obtain ⟨ya, yn, yc, hs4⟩ := hrl.at_.wait.any
                            obtain ⟨za, zc, hs5⟩ := str_shape (Reads.of_own hrl.row (str_one _))
                            subst hs3
                            subst hs4
                            subst hs5
                            unfold lgv
                            simp only
                            generalize L2.recs.length = zn at *
                            have HLG := Lib.hid hlg
                            have HRL := Lib.hid hrl
                            have HB66 := Lib.hid (blk_mod HST5.out.box hk6 (fun hn => hn HST5.out.xm))
                            have HXM6 := Lib.hid (hsub mb HST5.out.xm)
                            have HMB6 := Lib.hid HST5.out.hm
                            have hl2 : R4.len r2 ≤ 2100 * (k + 1 + 1) := by have := HST.out.len; omega
                            clear hlg hrl hlb hk6 hsub h9
                            go_upto_region 47 with (first
                              | ((with_reducible show wpList _ _ _ (⟨none, Op.store _ (Operand.tmp 8) _, _, _, _, _⟩ :: _) _ _); refine wpl_store_all _ rfl 63 _ _ rfl mb 63 [_, _, _, _, _, _, _, _, _] HB66.out rfl [.int .i64 r2.n, .slice xa xn9 xc, .slice ya yn yc, .bool r2.armed, .bool r2.down, .int .i64 r2.after, .int .u32 (L2.gen : Int), .slice za zn zc, .bool L2.cl] rfl rfl size_l5 (by simp [Value.oneCell']) ?_; intro w77 hbn hmn hszn; have HB7 := Lib.hid hbn; have HM7 := Lib.hid hmn; clear hbn hmn hszn)
                              | fail)
                            have HS20 : Hid (PSt w1 w77 p mb X' q2 L2 r2 (.slice xa xn9 xc) (.slice ya yn yc) (.slice za zn zc) (2100 * (k + 1 + 1))) := ⟨HLG.out.poke HM7.out (fun k e => by subst e; exact ⟨HXM6.out, HMB6.out⟩), HRL.out.store5 HB66.out HM7.out, HB7.out, HXM6.out, HMB6.out, hl2⟩
                            clear HLG HRL HB66 HXM6 HMB6 HB7 HM7
                            go_wp2
                            go_roundw
                            case rel => exact ⟨k + 1, by omega, by go_num, rfl, .inr ⟨rfl, X', q2, L2, r2, _, _, _, _, _, _, _, _, _, rfl, HS20⟩⟩
                            case measure => (simp [intOf]; try omega)
                          · subst hs3
                            subst hs4
                            subst hs5
                            unfold lgv
                            have HB66 := Lib.hid (blk_mod HST5.out.box hk6 (fun hn => hn HST5.out.xm))
                            have HMB6 := Lib.hid HST5.out.hm
                            have HX66 := Lib.hid (ext_of_keeps HST5.out.log.held.ext HST5.out.log.held.old hk6)
                            clear hk6 h9
                            go_upto_region 47 with (first
                              | ((with_reducible show wpList _ _ _ (⟨none, Op.store _ (Operand.tmp 8) _, _, _, _, _⟩ :: _) _ _); refine wpl_store_all _ rfl 63 _ _ rfl mb 63 [_, _, _, _, _, _, _, _, _] HB66.out rfl [.int .i64 r2.n, .slice xa xn9 xc, .slice ya yn yc, .bool r2.armed, .bool r2.down, .int .i64 r2.after, .int .u32 (g2 : Int), .slice za zn zc, .bool cl2] rfl rfl size_l5 (by simp [Value.oneCell']) ?_; intro w77 hbn hmn hszn; have HX7 := Lib.hid (HX1.out.trans (hmn.ext HX66.out (fun k e => by subst e; exact HMB6.out))); clear hbn hmn hszn)
                              | fail)
                            clear HB66 HMB6 HX66
                            go_wp2
                            go_roundw
                            case rel => exact ⟨k + 1, by omega, by go_num, rfl, .inl ⟨rfl, ⟨_, rfl⟩, HX7⟩⟩
                            case measure => (simp [intOf]; try omega)
                      · have k2b : (kind == 2) = false := by rw [beq_eq_false_iff_ne]; exact k2
                        clear k2
                        by_cases k3 : kind = 3
                        · as_aux_lemma =>
                            subst k3
                            have hx0 := Ext.of_alloc wr (.cells #[.int .i64 3, .int .i64 xi, .int .i64 xn, .int .i64 size, .slice da data.length dc, .slice ka keep.length kc, .int .u8 mask] 70)
                            have HST5 := Lib.hid (HST.out.all hx0)
                            have hFU := ref_fuse r (New X wr (wr.alloc (.cells #[.int .i64 3, .int .i64 xi, .int .i64 xn, .int .i64 size, .slice da data.length dc, .slice ka keep.length kc, .int .u8 mask] 70))) (.slice pa pn pc) (.slice qa qn qc) xn _ HST5.out.ref.at_
                            unfold rv at hFU
                            have HC := Lib.hid hFU
                            have HQ := Lib.hid (HST5.out.ref.rel.fuse xn)
                            have HFL := Lib.hid (fuse_len r xn)
                            have HLF := Lib.hid (fun (v : World) (X' : Nat → Prop) (h : Logd w1 v X' p q L) => logd_fuse h xn (wf_i64 HW2.out).2)
                            generalize R4.fuse r xn = RES at *
                            obtain ⟨r2, c2⟩ := RES
                            simp only at HC HQ HFL
                            clear hFU
                            obtain ⟨c0, c1, cc2, c3, c4, c5, c6, c7, c8, _⟩ := nine_facts HST5.out.box
                            go_wp2_with fail
                            refine HC.out.mono ?_
                            clear HC
                            rintro e w6 ⟨s3, s4, rfl, hra, hx6⟩
                            unfold rv
                            obtain ⟨xa, xn9, xc, hs3⟩ := hra.safe.any
                            obtain ⟨ya, yn, yc, hs4⟩ := hra.wait.any
                            subst hs3
                            subst hs4
                            have HRA := Lib.hid (hra.more (new_new hx0 hx6))
                            have HST6 := Lib.hid (HST.out.all (hx0.trans hx6))
                            have HB6 := Lib.hid HST6.out.box
                            have hag2 := Ext.cell hx6 (show (wr.alloc (.cells #[.int .i64 3, .int .i64 xi, .int .i64 xn, .int .i64 size, .slice da data.length dc, .slice ka keep.length kc, .int .u8 mask] 70)).cell? ⟨wr.heap.size, 2, none⟩ = some (.int .i64 xn) by rw [World.cell?_alloc_at _ _ _ _ rfl]; rfl)
                            have HXW2 := Lib.hid (show wr.heap.size ≠ mb from fun e => by have h1 := blk_lt HST.out.box; omega)
                            have HAG2 := Lib.hid hag2
                            clear hra hx0 hx6 hag2 HST5 g0 g1 g2 g3 g4 g5 g6 c0 c1 cc2 c3 c4 c5 c6 c7 c8
                            generalize New X wr w6 = XA at *
                            obtain ⟨c0, c1, cc2, c3, c4, c5, c6, c7, c8, _⟩ := nine_facts HB6.out
                            go_upto_region 38 with (first
                              | ((with_reducible show wpList _ _ _ (⟨none, Op.store _ (Operand.tmp 145) _, _, _, _, _⟩ :: _) _ _); refine wpl_store_part _ rfl _ (.tmp 145) (.tmp 143) rfl mb 0 63 [.int .i64 r.n, .slice pa pn pc, .slice qa qn qc, .bool r.armed, .bool r.down, .int .i64 r.after, .int .u32 (L.gen : Int), .slice la ln lc, .bool L.cl] HB6.out rfl (.agg #[.int .i64 r2.n, .slice xa xn9 xc, .slice ya yn yc, .bool r2.armed, .bool r2.down, .int .i64 r2.after]) rfl [.int .i64 r2.n, .slice xa xn9 xc, .slice ya yn yc, .bool r2.armed, .bool r2.down, .int .i64 r2.after] rfl [.int .i64 r2.n, .slice xa xn9 xc, .slice ya yn yc, .bool r2.armed, .bool r2.down, .int .i64 r2.after, .int .u32 (L.gen : Int), .slice la ln lc, .bool L.cl] rfl (by simp) size_d4 (by simp [Value.oneCell']) ?_; intro w7 hbn hmn hszn; have HB7 := Lib.hid hbn; have HM7 := Lib.hid hmn; clear hbn hmn hszn)
                              | fail)
                            have HL7 := Lib.hid (HST6.out.log.poke HM7.out (fun k e => by subst e; exact ⟨HST6.out.xm, HST6.out.hm⟩))
                            have HR7 := Lib.hid (HRA.out.store5 HB6.out (by decide) HM7.out)
                            have HO7 := Lib.hid (ownsRow_mod HST6.out.ref.row HM7.out (own_ne HST6.out.ref.row HB6.out (by decide)))
                            have HOX := Lib.hid HST6.out.ref.rowX
                            have HXM := Lib.hid HST6.out.xm
                            have HMB := Lib.hid HST6.out.hm
                            have hag7 := HM7.out.cell HAG2.out HXW2.out
                            have hl2 : R4.len r2 ≤ 2100 * (k + 1 + 1) := by have := HST.out.len; have := HFL.out; omega
                            clear HST HST6 HRA HB6 HM7 c0 c1 cc2 c3 c4 c5 c6 c7 c8
                            go_wp2_with fail
                            refine (HLF.out w7 XA HL7.out).mono ?_
                            clear HLF
                            rintro e w8 ⟨rfl, hL8, hK8⟩
                            rw [HQ.out.2]
                            have hcc : (c2 != c2) = false := by simp
                            have HS20 : Hid (PSt w1 w8 p mb XA q ⟨D.fuse L.d xn, L.gen, L.recs, L.cl⟩ r2 (.slice xa xn9 xc) (.slice ya yn yc) (.slice la ln lc) (2100 * (k + 1 + 1))) := ⟨hL8, ⟨HR7.out.keeps hK8, HQ.out.1, hK8.own HO7.out HOX.out, HOX.out⟩, blk_mod HB7.out hK8 (fun hn => hn HXM.out), HXM.out, HMB.out, hl2⟩
                            clear hL8 hK8 HL7 HR7 HO7 HOX HB7 hag7
                            go_wp2
                            go_roundw
                            case rel => exact ⟨k + 1, by omega, by go_num, rfl, .inr ⟨rfl, XA, q, _, r2, _, _, _, _, _, _, _, _, _, rfl, HS20⟩⟩
                            case measure => (simp [intOf]; try omega)
                        · have k3b : (kind == 3) = false := by rw [beq_eq_false_iff_ne]; exact k3
                          clear k3
                          by_cases k4 : kind = 4
                          · as_aux_lemma =>
                                subst k4
                                obtain ⟨rn, rs, rw9, rar, rdn, raf⟩ := r
                                have hx0 := Ext.of_alloc wr (.cells #[.int .i64 4, .int .i64 xi, .int .i64 xn, .int .i64 size, .slice da data.length dc, .slice ka keep.length kc, .int .u8 mask] 70)
                                by_cases q1 : 0 ≤ xi
                                · by_cases q2 : xi < n
                                  · by_cases q3 : 0 ≤ xn
                                    · by_cases q4 : xn < 512
                                      · cases rdn with
                                        | false =>
                                          have HST5 := Lib.hid (HST.out.after hx0)
                                          have HAB : Hid (∀ v, Ext (wr.alloc (.cells #[.int .i64 4, .int .i64 xi, .int .i64 xn, .int .i64 size, .slice da data.length dc, .slice ka keep.length kc, .int .u8 mask] 70)) v → v.cell? ⟨wr.heap.size, 1, none⟩ = some (.int .i64 xi) ∧ v.cell? ⟨wr.heap.size, 2, none⟩ = some (.int .i64 xn) ∧ v.cell? ⟨wr.heap.size, 6, none⟩ = some (.int .u8 mask)) := fun v hv =>
                                            ⟨hv.cell (by rw [World.cell?_alloc_at _ _ _ _ rfl]; rfl), hv.cell (by rw [World.cell?_alloc_at _ _ _ _ rfl]; rfl), hv.cell (by rw [World.cell?_alloc_at _ _ _ _ rfl]; rfl)⟩
                                          have HX5 := Lib.hid hx0
                                          have hSE := ref_sector ⟨rn, rs, rw9, rar, false, raf⟩ (.slice pa pn pc) (.slice qa qn qc) xi _ HST5.out.ref.at_.safe HST5.out.ref.at_.wait
                                          unfold rv at hSE
                                          simp only at hSE
                                          have hBl : (R4.sector ⟨rn, rs, rw9, rar, false, raf⟩ xi).length = 512 := by rw [← HST5.out.ref.rel.sector]; exact sector_len HST5.out.log.ok xi
                                          have HSE := Lib.hid hSE
                                          generalize R4.sector ⟨rn, rs, rw9, rar, false, raf⟩ xi = B at *
                                          have HBL := Lib.hid hBl
                                          obtain ⟨c0, c1, cc2, c3, c4, c5, c6, c7, c8, _⟩ := nine_facts HST5.out.box
                                          simp only at c0 c1 cc2 c3 c4 c5
                                          have hsA : wr.heap.size < (wr.alloc (.cells #[.int .i64 4, .int .i64 xi, .int .i64 xn, .int .i64 size, .slice da data.length dc, .slice ka keep.length kc, .int .u8 mask] 70)).heap.size := by rw [World.size_alloc]; omega
                                          clear hSE hx0 hBl
                                          go_wp2_with fail
                                          refine HSE.out.mono ?_
                                          clear HSE g0 g1 g2 g3 g4 g5 g6
                                          rintro e w6 ⟨rfl, hx6⟩
                                          have HX6 := Lib.hid hx6
                                          have hsB : wr.heap.size < w6.heap.size := Nat.lt_of_lt_of_le hsA hx6.size
                                          clear hx6 c0 c1 cc2 c3 c4 c5 c6 c7 c8 hsA
                                          obtain ⟨n1, n2, n6⟩ := HAB.out w6 HX6.out
                                          dsimp only
                                          go_upto_region 43 with (first
                                            | ((with_reducible show wpList _ _ _ (⟨some 184, _, _, _, _, _⟩ :: _) _ _); refine wpl_conv _ rfl _ rfl B rfl (by rw [HBL.out]; decide) ?_; intro cap w7 hx7 hb7 hf7 hs7; have HX7 := Lib.hid (HX6.out.trans hx7); have HB3 := Lib.hid hb7; have HF3 := Lib.hid hf7; have HL3 := Lib.hid hs7; clear hx7 hb7 hf7 hs7 n1 n2 n6; obtain ⟨n1, n2, n6⟩ := HAB.out w7 HX7.out)
                                            | fail)
                                          have HSB := Lib.hid hsB
                                          clear hsB
                                          generalize w6.heap.size = gb at *
                                          obtain ⟨j, rfl⟩ : ∃ j : Nat, xn = (j : Int) := ⟨xn.toNat, by omega⟩
                                          have hjl : j < B.length := by rw [HBL.out]; omega
                                          have hcell : w7.cell? ⟨gb, j, none⟩ = some (.int .u8 ((B[j]).toNat : Int)) := by
                                            have h9 := HB3.out
                                            obtain ⟨a9, c9', hv9, h91, h92, h93, h94, h95⟩ := h9
                                            rcases h95 with h95 | ⟨b9, o9, hb9, hc9⟩
                                            · rw [List.map_eq_nil_iff.1 h95] at hjl; cases hjl
                                            · obtain ⟨rfl, _, _⟩ := Value.slice.inj hv9
                                              obtain ⟨rfl, rfl, _⟩ := Addr.mk.inj (Option.some.inj hb9)
                                              have h96 := hc9 j (byteVal B[j]) (by rw [List.getElem?_map, List.getElem?_eq_getElem hjl]; rfl)
                                              rw [Nat.zero_add] at h96
                                              exact h96
                                          have hfro := HF3.out j hjl
                                          have hmk := wf_u8 HW4.out
                                          have hxr := xor_u8c B[j] mask hmk.1 hmk.2
                                          have hHX := Ext.of_drew w7
                                          go_wp2_with fail
                                          have hHeld := hHX
                                          refine wp_region_C (fun w' => Ext w7 w') 12 (by kernel_rfl) ?_
                                          (refine wpAnyC_take [12] (i := 0) (oi := ⟨some 185, _, _, _, _, _⟩) (v := ?_) rfl (by kernel_rfl) (by kernel_rfl) (by kernel_rfl) (by kernel_rfl) (fun _ _ _ h => h) (Or.inl ⟨by rfl, ?_⟩) hHeld ?_; rotate_left; (focus (intro w hSw; (skip); go_simp; first | done | with_reducible rfl)); try simp only [Act.put, List.setIfInBounds_toArray, List.set_cons_zero, List.set_cons_succ])
                                          (refine wpAnyC_take [12] (i := 1) (oi := ⟨some 186, _, _, _, _, _⟩) (v := ?_) rfl (by kernel_rfl) (by kernel_rfl) (by kernel_rfl) (by kernel_rfl) (fun _ _ _ h => h) (Or.inl ⟨by rfl, ?_⟩) hHeld ?_; rotate_left; (focus (intro w hSw; (skip); go_simp; first | done | with_reducible rfl)); try simp only [Act.put, List.setIfInBounds_toArray, List.set_cons_zero, List.set_cons_succ])
                                          (refine wpAnyC_take [12] (i := 2) (oi := ⟨some 187, _, _, _, _, _⟩) (v := ?_) rfl (by kernel_rfl) (by kernel_rfl) (by kernel_rfl) (by kernel_rfl) (fun _ _ _ h => h) (Or.inl ⟨by rfl, ?_⟩) hHeld ?_; rotate_left; (focus (intro w hSw; ((have q := hSw.cell n2)); go_simp; first | done | with_reducible rfl)); try simp only [Act.put, List.setIfInBounds_toArray, List.set_cons_zero, List.set_cons_succ])
                                          (refine wpAnyC_take [12] (i := 3) (oi := ⟨some 188, _, _, _, _, _⟩) (v := ?_) rfl (by kernel_rfl) (by kernel_rfl) (by kernel_rfl) (by kernel_rfl) (fun _ _ _ h => h) (Or.inl ⟨by rfl, ?_⟩) hHeld ?_; rotate_left; (focus (intro w hSw; (skip); go_simp; first | done | with_reducible rfl)); try simp only [Act.put, List.setIfInBounds_toArray, List.set_cons_zero, List.set_cons_succ])
                                          (refine wpAnyC_take [12] (i := 4) (oi := ⟨some 189, _, _, _, _, _⟩) (v := ?_) rfl (by kernel_rfl) (by kernel_rfl) (by kernel_rfl) (by kernel_rfl) (fun _ _ _ h => h) (Or.inl ⟨by rfl, ?_⟩) hHeld ?_; rotate_left; (focus (intro w hSw; (skip); go_simp; first | done | with_reducible rfl)); try simp only [Act.put, List.setIfInBounds_toArray, List.set_cons_zero, List.set_cons_succ])
                                          (refine wpAnyC_take [12] (i := 5) (oi := ⟨some 190, _, _, _, _, _⟩) (v := ?_) rfl (by kernel_rfl) (by kernel_rfl) (by kernel_rfl) (by kernel_rfl) (fun _ _ _ h => h) (Or.inl ⟨by rfl, ?_⟩) hHeld ?_; rotate_left; (focus (intro w hSw; ((have q := hSw.cell n2)); go_simp; first | done | with_reducible rfl)); try simp only [Act.put, List.setIfInBounds_toArray, List.set_cons_zero, List.set_cons_succ])
                                          (refine wpAnyC_take [12] (i := 6) (oi := ⟨some 191, _, _, _, _, _⟩) (v := ?_) rfl (by kernel_rfl) (by kernel_rfl) (by kernel_rfl) (by kernel_rfl) (fun _ _ _ h => h) (Or.inl ⟨by rfl, ?_⟩) hHeld ?_; rotate_left; (focus (intro w hSw; (skip); go_simp; first | done | with_reducible rfl)); try simp only [Act.put, List.setIfInBounds_toArray, List.set_cons_zero, List.set_cons_succ])
                                          (refine wpAnyC_take [12] (i := 7) (oi := ⟨some 192, _, _, _, _, _⟩) (v := ?_) rfl (by kernel_rfl) (by kernel_rfl) (by kernel_rfl) (by kernel_rfl) (fun _ _ _ h => h) (Or.inl ⟨by rfl, ?_⟩) hHeld ?_; rotate_left; (focus (intro w hSw; ((have q := hSw.cell hcell)); go_simp; first | done | with_reducible rfl)); try simp only [Act.put, List.setIfInBounds_toArray, List.set_cons_zero, List.set_cons_succ])
                                          (refine wpAnyC_take [12] (i := 8) (oi := ⟨some 193, _, _, _, _, _⟩) (v := ?_) rfl (by kernel_rfl) (by kernel_rfl) (by kernel_rfl) (by kernel_rfl) (fun _ _ _ h => h) (Or.inl ⟨by rfl, ?_⟩) hHeld ?_; rotate_left; (focus (intro w hSw; (skip); go_simp; first | done | with_reducible rfl)); try simp only [Act.put, List.setIfInBounds_toArray, List.set_cons_zero, List.set_cons_succ])
                                          (refine wpAnyC_take [12] (i := 9) (oi := ⟨some 194, _, _, _, _, _⟩) (v := ?_) rfl (by kernel_rfl) (by kernel_rfl) (by kernel_rfl) (by kernel_rfl) (fun _ _ _ h => h) (Or.inl ⟨by rfl, ?_⟩) hHeld ?_; rotate_left; (focus (intro w hSw; ((have q := hSw.cell n6)); go_simp; first | done | with_reducible rfl)); try simp only [Act.put, List.setIfInBounds_toArray, List.set_cons_zero, List.set_cons_succ])
                                          (refine wpAnyC_take [12] (i := 10) (oi := ⟨some 195, _, _, _, _, _⟩) (v := ?_) rfl (by kernel_rfl) (by kernel_rfl) (by kernel_rfl) (by kernel_rfl) (fun _ _ _ h => h) (Or.inl ⟨by rfl, ?_⟩) hHeld ?_; rotate_left; (focus (intro w hSw; (skip); go_simp; first | done | with_reducible rfl)); try simp only [Act.put, List.setIfInBounds_toArray, List.set_cons_zero, List.set_cons_succ])
                                          (refine wpAnyC_take [12] (i := 11) (oi := ⟨some 196, _, _, _, _, _⟩) (v := ?_) rfl (by kernel_rfl) (by kernel_rfl) (by kernel_rfl) (by kernel_rfl) (fun _ _ _ h => h) (Or.inl ⟨by rfl, ?_⟩) hHeld ?_; rotate_left; (focus (intro w hSw; (skip); go_simp; first | done | with_reducible rfl)); try simp only [Act.put, List.setIfInBounds_toArray, List.set_cons_zero, List.set_cons_succ])
                                          refine wpAnyC_c (oi := ⟨none, _, _, _, _, _⟩) rfl (by kernel_rfl) (fun K hK => ?_)
                                          rw [if_pos (by rfl)]
                                          go_simp
                                          refine hK.out _ _ ?_
                                          clear hK K
                                          try simp only [Act.put, List.setIfInBounds_toArray, List.set_cons_zero, List.set_cons_succ]
                                          refine wpAny_done (by kernel_rfl) ?_ _
                                          have hV : Value.int .u8 (((B[j].toNat ^^^ mask.toNat % 256 : Nat)) : Int) = byteVal (B[j] ^^^ UInt8.ofNat mask.toNat) := by
                                            unfold byteVal
                                            rw [UInt8.toNat_xor]
                                            rfl
                                          rw [hV]
                                          clear hV
                                          generalize hU : B[j] ^^^ UInt8.ofNat mask.toNat = U at *
                                          have hmw : Mod (fun k => k = gb) w7 (w7.setCell ⟨gb, j, none⟩ (byteVal U)) := Mod.setCell w7 _ _ rfl
                                          have hxd := Ext.of_drew (w7.setCell ⟨gb, j, none⟩ (byteVal U))
                                          have HPK := Lib.hid ((HB3.out.poke j hjl U).ext hxd)
                                          have HST9 := Lib.hid ((HST.out.fresh (HX5.out.trans HX7.out) (g := gb) (Nat.le_of_lt HSB.out) HL3.out hmw).after hxd)
                                          have HGX := Lib.hid (show New X wr w7 gb from .inr ⟨Nat.le_of_lt HSB.out, HL3.out⟩)
                                          have n1' := hxd.cell (hmw.cell n1 (show ¬ wr.heap.size = gb by have := HSB.out; omega))
                                          have HMG := Lib.hid (show mb < gb from Nat.lt_trans (blk_lt HST.out.box) HSB.out)
                                          clear hmw hxd hHX hHeld hcell hfro hxr hmk n1 n2 n6 hU
                                          generalize hw9 : (w7.setCell ⟨gb, j, none⟩ (byteVal U)).drew = w9 at *
                                          clear hw9
                                          generalize New X wr w7 = X9 at *
                                          have hBL2 : (B.set j U).length = B.length := List.length_set
                                          generalize hB2 : B.set j U = B2 at *
                                          have hcv := HPK.out.toString (P := Try.prog) 31 9 5 Try.underlying31 Try.underlying5 Try.underlying9
                                          have HQ := Lib.hid (HST9.out.ref.rel.lay xi B2)
                                          have HLN4 := Lib.hid (lay_len ⟨rn, rs, rw9, rar, false, raf⟩ xi B2)
                                          have hLY := ref_lay ⟨rn, rs, rw9, rar, false, raf⟩ X9 (.slice pa pn pc) (.slice qa qn qc) xi B2 w9 HST9.out.ref.at_ (by have h2 := HST.out.len; unfold R4.len at h2; simp only at h2; show rw9.length + 1 ≤ 1000000; omega) (by have := HPK.out.length_le; omega)
                                          unfold rv RefOut at hLY
                                          have HC := Lib.hid hLY
                                          have hwl : L.d.wait.length ≤ 1073741824 := by have h1 := HST.out.ref.rel.wait; have h2 := HST.out.len; unfold R4.len at h2; rw [h1]; omega
                                          generalize R4.lay ⟨rn, rs, rw9, rar, false, raf⟩ xi B2 = RES at *
                                          obtain ⟨r2, c2⟩ := RES
                                          simp only at HC HQ HLN4
                                          clear hLY hB2
                                          obtain ⟨c0, c1, cc2, c3, c4, c5, c6, c7, c8, _⟩ := nine_facts HST9.out.box
                                          simp only at c0 c1 cc2 c3 c4 c5
                                          go_wp2_with fail
                                          refine HC.out.mono ?_
                                          clear HC
                                          rintro e w10 ⟨s3, s4, rfl, hra, hx10⟩
                                          obtain ⟨xa, xn9, xc, hs3⟩ := hra.safe.any
                                          obtain ⟨ya, yn, yc, hs4⟩ := hra.wait.any
                                          subst hs3
                                          subst hs4
                                          have HRA := Lib.hid hra
                                          have HST10 := Lib.hid (HST9.out.all hx10)
                                          have n1'' := hx10.cell n1'
                                          have HPK10 := Lib.hid (HPK.out.ext hx10)
                                          have HGX10 := Lib.hid (show New X9 w9 w10 gb from .inl HGX.out)
                                          clear hra hx10 HST9 n1' HPK HGX hcv c0 c1 cc2 c3 c4 c5 c6 c7 c8
                                          generalize New X9 w9 w10 = XA at *
                                          obtain ⟨c0, c1, cc2, c3, c4, c5, c6, c7, c8, _⟩ := nine_facts HST10.out.box
                                          simp only at c0 c1 cc2 c3 c4 c5
                                          dsimp only
                                          go_upto_region 45 with (first
                                            | ((with_reducible show wpList _ _ _ (⟨none, Op.store _ (Operand.tmp 207) _, _, _, _, _⟩ :: _) _ _); refine wpl_store_part _ rfl _ (.tmp 207) (.tmp 205) rfl mb 0 63 [.int .i64 rn, .slice pa pn pc, .slice qa qn qc, .bool rar, .bool false, .int .i64 raf, .int .u32 (L.gen : Int), .slice la ln lc, .bool L.cl] HST10.out.box rfl (.agg #[.int .i64 r2.n, .slice xa xn9 xc, .slice ya yn yc, .bool r2.armed, .bool r2.down, .int .i64 r2.after]) rfl [.int .i64 r2.n, .slice xa xn9 xc, .slice ya yn yc, .bool r2.armed, .bool r2.down, .int .i64 r2.after] rfl [.int .i64 r2.n, .slice xa xn9 xc, .slice ya yn yc, .bool r2.armed, .bool r2.down, .int .i64 r2.after, .int .u32 (L.gen : Int), .slice la ln lc, .bool L.cl] rfl (by simp) size_d4 (by simp [Value.oneCell']) ?_; intro w11 hbn hmn hszn; have HB11 := Lib.hid hbn; have HM11 := Lib.hid hmn; clear hbn hmn hszn)
                                            | fail)
                                          have HL11 := Lib.hid (HST10.out.log.poke HM11.out (fun k e => by subst e; exact ⟨HST10.out.xm, HST10.out.hm⟩))
                                          have HR11 := Lib.hid (HRA.out.store5 HST10.out.box (by decide) HM11.out)
                                          have HPK11 := Lib.hid (Reads.mod HPK10.out HM11.out (fun k hk e => by have h1 : gb = k := (by simpa [Value.ownBlock] using hk); have := HMG.out; omega))
                                          have n13 := HM11.out.cell n1'' (show ¬ wr.heap.size = mb from fun e => by have h1 := blk_lt HST.out.box; omega)
                                          have HXM11 := Lib.hid HST10.out.xm
                                          have HMB11 := Lib.hid HST10.out.hm
                                          have hlq : R4.len r2 + 2048 ≤ 2100 * (k + 1 + 1) := by have h1 := HST.out.len; have h2 := HLN4.out; omega
                                          clear HST10 HRA HPK10 HM11 n1'' c0 c1 cc2 c3 c4 c5 c6 c7 c8
                                          go_wp2_with fail
                                          refine (held_write_X HL11.out.held xi _ B2 HPK11.out (fun k hk => by have h1 : gb = k := (by simpa [Value.ownBlock] using hk); subst h1; exact HGX10.out) hwl).mono ?_
                                          rintro e w12 ⟨rfl, hst⟩
                                          have HH12 := Lib.hid hst.1
                                          have HR12 := Lib.hid (HR11.out.keeps hst.2)
                                          have HB12 := Lib.hid (blk_mod HB11.out hst.2 (fun hn => hn HXM11.out))
                                          clear hst HL11 HR11 HPK11 n13 HB11
                                          have hx13 := Ext.of_alloc w12 (.cells B20 4)
                                          have hRD := reads_bools w12
                                          have hAG := again_any (HH12.out.all hx13) (HR12.out.all hx13) HQ.out.1 (by omega) (.slice (some ⟨w12.heap.size, 0, none⟩) 20 20) (List.replicate 20 true) hRD (.inr (fun k hk => by have h1 : w12.heap.size = k := (by simpa [Value.ownBlock] using hk); subst h1; exact .inr ⟨Nat.le_refl _, by rw [World.size_alloc]; omega⟩))
                                          unfold rv at hAG
                                          have HAG := Lib.hid hAG
                                          have HBZ := Lib.hid (blk_mod (F := fun _ => False) HB12.out (Mod.of_ext hx13) (fun h => h))
                                          have HXZ := Lib.hid (show New XA w12 (w12.alloc (.cells B20 4)) mb from .inl HXM11.out)
                                          have HEZ := Lib.hid (HH12.out.all hx13).ext
                                          have HOZ := Lib.hid (HH12.out.all hx13).old
                                          generalize W5.open_ (D.restart (D.write L.d xi B2) (List.replicate 20 true)) = OO at *
                                          obtain ⟨L2, c2'⟩ := OO
                                          obtain ⟨c0, c1, cc2, c3, c4, c5, c6, c7, c8, _⟩ := nine_facts HB12.out
                                          clear hAG hRD hx13 HH12 HR12
                                          dsimp only
                                          go_upto_region 60 with (first
                                            | ((with_reducible show wpList _ _ _ (⟨some 217, _, _, _, _, _⟩ :: _) _ _); refine wpl_bools _ rfl rfl ?_)
                                            | fail)
                                          refine HAG.out.mono ?_
                                          clear HAG c0 c1 cc2 c3 c4 c5 c6 c7 c8
                                          rintro e w14 hag
                                          rcases hag with ⟨h9, X', q2, r2, s3, s4, s5, rfl, hsub, hlg, hrl, hlb, hk6⟩ | ⟨h9, r2, s3, s4, s5, g2, cl2, rfl, ⟨xa, xn9, xc, hs3⟩, ⟨ya, yn, yc, hs4⟩, ⟨za, zn, zc, hs5⟩, hk6⟩
                                          · replace hlg : Logd w1 _ X' p q2 L2 := hlg
                                            replace hrl : RefL _ X' L2 r2 s3 s4 s5 := hrl
                                            obtain ⟨xa, xn9, xc, hs3⟩ := hrl.at_.safe.any
                                            obtain ⟨ya, yn, yc, hs4⟩ := hrl.at_.wait.any
                                            obtain ⟨za, zc, hs5⟩ := str_shape (Reads.of_own hrl.row (str_one _))
                                            subst hs3
                                            subst hs4
                                            subst hs5
                                            unfold lgv
                                            simp only
                                            generalize L2.recs.length = zn at *
                                            have HLG := Lib.hid hlg
                                            have HRL := Lib.hid hrl
                                            have HB66 := Lib.hid (blk_mod HBZ.out hk6 (fun hn => hn HXZ.out))
                                            have HXM6 := Lib.hid (hsub mb HXZ.out)
                                            have HMB6 := Lib.hid HMB11.out
                                            have hl2 : R4.len r2 ≤ 2100 * (k + 1 + 1) := by skip; omega
                                            clear hlg hrl hlb hk6 hsub h9
                                            go_upto_region 47 with (first
                                              | ((with_reducible show wpList _ _ _ (⟨none, Op.store _ (Operand.tmp 8) _, _, _, _, _⟩ :: _) _ _); refine wpl_store_all _ rfl 63 _ _ rfl mb 63 [_, _, _, _, _, _, _, _, _] HB66.out rfl [.int .i64 r2.n, .slice xa xn9 xc, .slice ya yn yc, .bool r2.armed, .bool r2.down, .int .i64 r2.after, .int .u32 (L2.gen : Int), .slice za zn zc, .bool L2.cl] rfl rfl size_l5 (by simp [Value.oneCell']) ?_; intro w77 hbn hmn hszn; have HB7 := Lib.hid hbn; have HM7 := Lib.hid hmn; clear hbn hmn hszn)
                                              | fail)
                                            have HS20 : Hid (PSt w1 w77 p mb X' q2 L2 r2 (.slice xa xn9 xc) (.slice ya yn yc) (.slice za zn zc) (2100 * (k + 1 + 1))) := ⟨HLG.out.poke HM7.out (fun k e => by subst e; exact ⟨HXM6.out, HMB6.out⟩), HRL.out.store5 HB66.out HM7.out, HB7.out, HXM6.out, HMB6.out, hl2⟩
                                            clear HLG HRL HB66 HXM6 HMB6 HB7 HM7
                                            go_wp2
                                            go_roundw
                                            case rel => exact ⟨k + 1, by omega, by go_num, rfl, .inr ⟨rfl, X', q2, L2, r2, _, _, _, _, _, _, _, _, _, rfl, HS20⟩⟩
                                            case measure => (simp [intOf]; try omega)
                                          · subst hs3
                                            subst hs4
                                            subst hs5
                                            unfold lgv
                                            have HB66 := Lib.hid (blk_mod HBZ.out hk6 (fun hn => hn HXZ.out))
                                            have HMB6 := Lib.hid HMB11.out
                                            have HX66 := Lib.hid (ext_of_keeps HEZ.out HOZ.out hk6)
                                            clear hk6 h9
                                            go_upto_region 47 with (first
                                              | ((with_reducible show wpList _ _ _ (⟨none, Op.store _ (Operand.tmp 8) _, _, _, _, _⟩ :: _) _ _); refine wpl_store_all _ rfl 63 _ _ rfl mb 63 [_, _, _, _, _, _, _, _, _] HB66.out rfl [.int .i64 r2.n, .slice xa xn9 xc, .slice ya yn yc, .bool r2.armed, .bool r2.down, .int .i64 r2.after, .int .u32 (g2 : Int), .slice za zn zc, .bool cl2] rfl rfl size_l5 (by simp [Value.oneCell']) ?_; intro w77 hbn hmn hszn; have HX7 := Lib.hid (HX1.out.trans (hmn.ext HX66.out (fun k e => by subst e; exact HMB6.out))); clear hbn hmn hszn)
                                              | fail)
                                            clear HB66 HMB6 HX66
                                            go_wp2
                                            go_roundw
                                            case rel => exact ⟨k + 1, by omega, by go_num, rfl, .inl ⟨rfl, ⟨_, rfl⟩, HX7⟩⟩
                                            case measure => (simp [intOf]; try omega)
                                        | true =>
                                          have HS5 := HST.out.after hx0
                                          obtain ⟨c0, c1, cc2, c3, c4, c5, c6, c7, c8, _⟩ := nine_facts HS5.box
                                          have HS20 : Hid (PSt w1 _ p mb X q L _ (.slice pa pn pc) (.slice qa qn qc) (.slice la ln lc) (2100 * (k + 1 + 1))) := ⟨HS5.log, HS5.ref, HS5.box, HS5.xm, HS5.hm, Nat.le_trans HS5.len (by omega)⟩
                                          clear hx0 HS5 HST
                                          try simp only at c4
                                          go_wp2
                                          go_roundw
                                          case rel => exact ⟨k + 1, by omega, by go_num, rfl, .inr ⟨rfl, X, q, L, _, _, _, _, _, _, _, _, _, _, rfl, HS20⟩⟩
                                          case measure => (simp [intOf]; try omega)
                                      · have q4d : decide (xn < 512) = false := decide_eq_false q4
                                        clear q4
                                        have HS5 := HST.out.after hx0
                                        obtain ⟨c0, c1, cc2, c3, c4, c5, c6, c7, c8, _⟩ := nine_facts HS5.box
                                        have HS20 : Hid (PSt w1 _ p mb X q L _ (.slice pa pn pc) (.slice qa qn qc) (.slice la ln lc) (2100 * (k + 1 + 1))) := ⟨HS5.log, HS5.ref, HS5.box, HS5.xm, HS5.hm, Nat.le_trans HS5.len (by omega)⟩
                                        clear hx0 HS5 HST
                                        try simp only at c4
                                        go_wp2
                                        go_roundw
                                        case rel => exact ⟨k + 1, by omega, by go_num, rfl, .inr ⟨rfl, X, q, L, _, _, _, _, _, _, _, _, _, _, rfl, HS20⟩⟩
                                        case measure => (simp [intOf]; try omega)
                                    · have q3d : decide (0 ≤ xn) = false := decide_eq_false q3
                                      clear q3
                                      have HS5 := HST.out.after hx0
                                      obtain ⟨c0, c1, cc2, c3, c4, c5, c6, c7, c8, _⟩ := nine_facts HS5.box
                                      have HS20 : Hid (PSt w1 _ p mb X q L _ (.slice pa pn pc) (.slice qa qn qc) (.slice la ln lc) (2100 * (k + 1 + 1))) := ⟨HS5.log, HS5.ref, HS5.box, HS5.xm, HS5.hm, Nat.le_trans HS5.len (by omega)⟩
                                      clear hx0 HS5 HST
                                      try simp only at c4
                                      go_wp2
                                      go_roundw
                                      case rel => exact ⟨k + 1, by omega, by go_num, rfl, .inr ⟨rfl, X, q, L, _, _, _, _, _, _, _, _, _, _, rfl, HS20⟩⟩
                                      case measure => (simp [intOf]; try omega)
                                  · have q2d : decide (xi < n) = false := decide_eq_false q2
                                    clear q2
                                    have HS5 := HST.out.after hx0
                                    obtain ⟨c0, c1, cc2, c3, c4, c5, c6, c7, c8, _⟩ := nine_facts HS5.box
                                    have HS20 : Hid (PSt w1 _ p mb X q L _ (.slice pa pn pc) (.slice qa qn qc) (.slice la ln lc) (2100 * (k + 1 + 1))) := ⟨HS5.log, HS5.ref, HS5.box, HS5.xm, HS5.hm, Nat.le_trans HS5.len (by omega)⟩
                                    clear hx0 HS5 HST
                                    try simp only at c4
                                    go_wp2
                                    go_roundw
                                    case rel => exact ⟨k + 1, by omega, by go_num, rfl, .inr ⟨rfl, X, q, L, _, _, _, _, _, _, _, _, _, _, rfl, HS20⟩⟩
                                    case measure => (simp [intOf]; try omega)
                                · have q1d : decide (0 ≤ xi) = false := decide_eq_false q1
                                  clear q1
                                  have HS5 := HST.out.after hx0
                                  obtain ⟨c0, c1, cc2, c3, c4, c5, c6, c7, c8, _⟩ := nine_facts HS5.box
                                  have HS20 : Hid (PSt w1 _ p mb X q L _ (.slice pa pn pc) (.slice qa qn qc) (.slice la ln lc) (2100 * (k + 1 + 1))) := ⟨HS5.log, HS5.ref, HS5.box, HS5.xm, HS5.hm, Nat.le_trans HS5.len (by omega)⟩
                                  clear hx0 HS5 HST
                                  try simp only at c4
                                  go_wp2
                                  go_roundw
                                  case rel => exact ⟨k + 1, by omega, by go_num, rfl, .inr ⟨rfl, X, q, L, _, _, _, _, _, _, _, _, _, _, rfl, HS20⟩⟩
                                  case measure => (simp [intOf]; try omega)
                          · have k4b : (kind == 4) = false := by rw [beq_eq_false_iff_ne]; exact k4
                            clear k4
                            have hx0 := Ext.of_alloc wr (.cells #[.int .i64 kind, .int .i64 xi, .int .i64 xn, .int .i64 size, .slice da data.length dc, .slice ka keep.length kc, .int .u8 mask] 70)
                            have HS5 := HST.out.after hx0
                            have HS20 : Hid (PSt w1 _ p mb X q L r (.slice pa pn pc) (.slice qa qn qc) (.slice la ln lc) (2100 * (k + 1 + 1))) := ⟨HS5.log, HS5.ref, HS5.box, HS5.xm, HS5.hm, Nat.le_trans HS5.len (by omega)⟩
                            clear hx0 HS5 HST
                            go_wp2
                            go_roundw
                            case rel => exact ⟨k + 1, by omega, by go_num, rfl, .inr ⟨rfl, X, q, L, r, _, _, _, _, _, _, _, _, _, rfl, HS20⟩⟩
                            case measure => (simp [intOf]; try omega)
                · have hlti : decide (k < l.length) = false := decide_eq_false hlt
                  have HXF := Lib.hid (HX1.out.trans hst.out.log.held.ext)
                  clear hlt
                  go_wp2
                  all_goals (go_ret; exact ⟨rfl, HXF.out⟩)
end Go.Proofs.Ytmcmocakfhedfaa
