import Derived.Test.YtnjfioikpajhlaaGreatMSt4
import Derived.Test.YtnjfioikpajhlaaGreatMRec
set_option maxRecDepth 100000
set_option maxHeartbeats 64000000
/- The law's writes. (Printed by tools/mkstr.py.) -/
namespace Go.Proofs.YtnjfioikpajhlaaGreat
open Go.RowKit Go.Shelf
namespace S6
structure Pt where
 key : List UInt8
 val : List UInt8
 size : Int
 drop : Bool
 off : Nat
def wrOf (l : List Pr) (p : Pt) : Wr := ⟨p.key, W5.record p.val p.size, p.drop, (verOf l p.key + p.off) % 18446744073709551616⟩
def wsOf (l : List Pr) (puts : List Pt) : List Wr := (puts.take 70).map (wrOf l)
theorem wsOf_len (l : List Pr) (puts : List Pt) : (wsOf l puts).length = min 70 puts.length := by simp [wsOf]
theorem wsOf_get (l : List Pr) (puts : List Pt) (i : Nat) (h : i < (wsOf l puts).length) (k : i < puts.length) : (wsOf l puts)[i] = wrOf l puts[i] := by simp [wsOf]
end S6
def PutAt (w : World) (b o : Nat) (x : S6.Pt) : Prop := ∃ u, w.cell? ⟨b, o, none⟩ = some (strV x.key) /\ w.cell? ⟨b, o + 1, none⟩ = some u /\ w.cell? ⟨b, o + 2, none⟩ = some (.int .i64 x.size) /\ w.cell? ⟨b, o + 3, none⟩ = some (.bool x.drop) /\ w.cell? ⟨b, o + 4, none⟩ = some (.int .u64 (x.off : Int)) /\ Bs w u x.val /\ x.off < 18446744073709551616
theorem PutAt.ext {w w' : World} {b o : Nat} {x : S6.Pt} (h : PutAt w b o x) (hx : Ext w w') : PutAt w' b o x := by
 obtain ⟨u, h0, h1, h2, h3, h4, h5, h6⟩ := h
 exact ⟨u, hx.cell h0, hx.cell h1, hx.cell h2, hx.cell h3, hx.cell h4, h5.ext hx, h6⟩
def PutsIn (w : World) (v : Value) (ps : List S6.Pt) : Prop :=
 ∃ a cap, v = .slice a ps.length cap /\ ps.length <= 9223372036854775807 /\ (ps = [] ∨ ∃ b off, a = some ⟨b, off, none⟩ /\ ∀ r (h : r < ps.length), PutAt w b (off + r * 5) ps[r])
theorem PutsIn.ext {w w' : World} {v : Value} {ps : List S6.Pt} (h : PutsIn w v ps) (hx : Ext w w') : PutsIn w' v ps := by
 obtain ⟨a, cap, hv, hl, h4⟩ := h
 refine ⟨a, cap, hv, hl, ?_⟩
 rcases h4 with h4 | ⟨b, off, hb, hc⟩
 ·exact .inl h4
 ·exact .inr ⟨b, off, hb, fun r hr => (hc r hr).ext hx⟩
theorem PutsIn.nil (w : World) : PutsIn w (.slice none 0 0) [] := ⟨none, 0, rfl, by simp, .inl rfl⟩
theorem PutsIn.shape {w : World} {v : Value} {ws : List S6.Pt} (h : PutsIn w v ws) : ws.length <= 9223372036854775807 /\ ∃ a cap, v = .slice a ws.length cap /\ ∀ i (h : i < ws.length), ws[i].off < 18446744073709551616 /\ ∃ b off u, a = some ⟨b, off, none⟩ /\ b < w.heap.size /\
 w.cell? ⟨b, off + i * 5, none⟩ = some (strV ws[i].key) /\ w.cell? ⟨b, off + i * 5 + 1, none⟩ = some u /\ w.cell? ⟨b, off + i * 5 + 2, none⟩ = some (.int .i64 ws[i].size) /\ w.cell? ⟨b, off + i * 5 + 3, none⟩ = some (.bool ws[i].drop) /\ w.cell? ⟨b, off + i * 5 + 4, none⟩ = some (.int .u64 (ws[i].off : Int)) /\ Bs w u ws[i].val := by
 obtain ⟨a, cap, hv, hl, h4⟩ := h
 refine ⟨hl, a, cap, hv, fun i hi => ?_⟩
 rcases h4 with rfl | ⟨b, off, rfl, hc⟩
 ·cases hi
 ·obtain ⟨u, h0, h1, h2, h3, h5, h6, h7⟩ := hc i hi
  exact ⟨h7, b, off, u, rfl, World.block_lt_of_cell? w _ h0, h0, h1, h2, h3, h5, h6⟩
structure WrsO (w : World) (base : Nat) (v : Value) (us : List Value) (ws : List S6.Wr) : Prop where
 row : w.ownsRow base 58 4 v ws.length (wrcs ws us)
 len : us.length = ws.length
 each : ∀ i (h : i < ws.length), ∃ u, us[i]? = some u /\ w.ownsRow base 5 1 u ws[i].val.length (ws[i].val.map byteVal)
 two : ∀ (i j : Nat) (a b : Value), i < j -> us[i]? = some a -> us[j]? = some b -> ∀ k, a.ownBlock = some k -> b.ownBlock ≠ some k
theorem WrsO.nil (w : World) (base : Nat) : WrsO w base (.slice none 0 0) [] [] := ⟨World.ownsRow_nil _ _ _ _, rfl, fun _ h => absurd h (Nat.not_lt_zero _), fun i j a b _ h => by simp at h⟩
theorem WrsO.mem {w : World} {base : Nat} {v : Value} {us : List Value} {ws : List S6.Wr} (h : WrsO w base v us ws) {u : Value} (hu : u ∈ us) : ∃ l : List UInt8, w.ownsRow base 5 1 u l.length (l.map byteVal) := by
 obtain ⟨i, hi, rfl⟩ := List.getElem_of_mem hu
 obtain ⟨u, h1, h2⟩ := h.each i (by rw [<- h.len]; exact hi)
 rw [List.getElem?_eq_getElem hi] at h1
 obtain rfl := Option.some.inj h1
 exact ⟨_, h2⟩
theorem WrsO.apart {w : World} {base : Nat} {v : Value} {us : List Value} {ws : List S6.Wr} (h : WrsO w base v us ws) {u : Value} (hu : u ∈ us) {k : Nat} (hk : u.ownBlock = some k) : v.ownBlock ≠ some k := by
 intro e
 obtain ⟨l, ho⟩ := h.mem hu
 obtain ⟨_, _, h1⟩ := own_at ho hk
 obtain ⟨_, _, h2⟩ := own_at h.row e
 rw [h1] at h2
 have h3 : (5 : Nat) = 58 := by injection (Option.some.inj h2)
 exact absurd h3 (by decide)
theorem WrsO.mod {F : Nat -> Prop} {w w' : World} {base : Nat} {v : Value} {us : List Value} {ws : List S6.Wr} (h : WrsO w base v us ws) (hm : Mod F w w') (h1 : ∀ k, v.ownBlock = some k -> ¬ F k) (h2 : ∀ u ∈ us, ∀ k, u.ownBlock = some k -> ¬ F k) : WrsO w' base v us ws :=
 ⟨ownsRow_mod h.row hm h1, h.len, fun i hi => let ⟨u, a, b⟩ := h.each i hi; ⟨u, a, ownsRow_mod b hm (h2 u (List.mem_of_getElem? a))⟩, h.two⟩
theorem WrsO.ext {w w' : World} {base : Nat} {v : Value} {us : List Value} {ws : List S6.Wr} (h : WrsO w base v us ws) (hx : Ext w w') : WrsO w' base v us ws :=
 h.mod (F := fun _ => False) (Mod.of_ext hx) (fun _ _ h => h) (fun _ _ _ _ h => h)
theorem WrsO.lower {w : World} {base base' : Nat} {v : Value} {us : List Value} {ws : List S6.Wr} (h : WrsO w base v us ws) (hb : base' <= base) : WrsO w base' v us ws :=
 ⟨ownsRow_base5 h.row hb, h.len, fun i hi => let ⟨u, a, b⟩ := h.each i hi; ⟨u, a, ownsRow_base5 b hb⟩, h.two⟩
theorem WrsO.push {w1 w3 w4 : World} {base base' : Nat} {v nv u : Value} {us : List Value} {ws : List S6.Wr} {x : S6.Wr} (h : WrsO w1 base v us ws) (hx : Ext w1 w3) (hb : base <= base') (hb' : w1.heap.size <= base')
 (hu : w3.ownsRow base' 5 1 u x.val.length (x.val.map byteVal)) (hown : w4.ownsRow base 58 4 nv (ws.length + 1) (wrcs ws us ++ wrc x u)) (hg : w3.grownBy w4 v.ownBlock) : WrsO w4 base nv (us ++ [u]) (ws ++ [x]) := by
 have hm : Mod (fun k => v.ownBlock = some k) w3 w4 := Mod.grown hg (fun k e _ => e)
 refine ⟨by rw [List.length_append, wrcs_append ws [x] us [u] h.len]; simpa [wrcs] using hown, by rw [List.length_append, List.length_append, h.len]; rfl, fun i hi => ?_, fun i j a b hij ha hb2 k hk e => ?_⟩
 ·rw [List.length_append] at hi
  rcases Nat.lt_or_ge i ws.length with h1 | h1
  ·obtain ⟨u', a, c⟩ := h.each i h1
   refine ⟨u', ?_, ?_⟩
   ·rw [List.getElem?_append_left (by rw [h.len]; exact h1)]; exact a
   ·rw [List.getElem_append_left h1]
    exact ownsRow_mod (hx.keptOwn c) hm (fun k hk e => h.apart (List.mem_of_getElem? a) hk e)
  ·obtain rfl : i = ws.length := by simp at hi; omega
   refine ⟨u, ?_, ?_⟩
   ·rw [List.getElem?_append_right (by rw [h.len]; exact Nat.le_refl _), h.len, Nat.sub_self]; rfl
   ·have : (ws ++ [x])[ws.length]'(by simp) = x := by simp
    rw [this]
    refine ownsRow_mod (ownsRow_base5 hu hb) hm (fun k hk e => ?_)
    have h2 := (hu.lt k hk).1
    have h3 := (h.row.lt k e).2
    omega
 ·have hj : j < (us ++ [u]).length := (List.getElem?_eq_some_iff.1 hb2).1
  rw [List.length_append] at hj
  have hi : i < us.length := by simp at hj; omega
  rw [List.getElem?_append_left hi] at ha
  rcases Nat.lt_or_ge j us.length with h1 | h1
  ·rw [List.getElem?_append_left h1] at hb2
   exact h.two i j a b hij ha hb2 k hk e
  ·obtain rfl : j = us.length := by simp at hj; omega
   rw [List.getElem?_append_right (Nat.le_refl _), Nat.sub_self] at hb2
   obtain rfl : u = b := by simpa using hb2
   obtain ⟨l, ho⟩ := h.mem (List.mem_of_getElem? ha)
   have h2 := (ho.lt k hk).2
   have h3 := (hu.lt k e).1
   omega
theorem WrsO.wrs {w : World} {base : Nat} {v : Value} {us : List Value} {ws : List S6.Wr} (h : WrsO w base v us ws) {X : Nat -> Prop} (hX : ∀ k, base <= k -> k < w.heap.size -> X k) : WrsIn w X v ws := by
 have hone : ∀ u ∈ us, u.oneCell' = true := fun u hu => by
  obtain ⟨l, ho⟩ := h.mem hu
  obtain ⟨a, cap, rfl⟩ := (Bs.of_own ho).shape
  rfl
 refine ⟨us, h.len, fun i a c => ?_, ReadsN.of_own h.row (wrcs_one ws us hone), fun k hk => hX k (h.row.lt k hk).1 (h.row.lt k hk).2⟩
 obtain ⟨u, h1, h2⟩ := h.each i a
 rw [List.getElem?_eq_getElem c] at h1
 obtain rfl := Option.some.inj h1
 exact ⟨Bs.of_own h2, fun k hk => hX k (h2.lt k hk).1 (h2.lt k hk).2⟩
def wvals (ws : List S6.Wr) : List Value := ws.map (fun x => strV x.val)
theorem wvals_len (ws : List S6.Wr) : (wvals ws).length = ws.length := by simp [wvals]
theorem wvals_append (a b : List S6.Wr) : wvals (a ++ b) = wvals a ++ wvals b := by simp [wvals]
theorem el_rwr : Elem 49 106 4 48 := elem_of Tryz.underlying49 (by decide) (by decide) (by kernel_rfl)
theorem writes6_any (w : World) (g : G9) (pv : Value) (num : Nat) (cl : Bool) (l : List S6.Pr) (v : Value) (puts : List S6.Pt) (hP : RPs w pv l) (hl : l.length <= 900000) (hpX : ∀ k, pv.ownBlock = some k -> k < w.heap.size) (hlv : ∀ p ∈ l, p.ver < 18446744073709551616) (hv : PutsIn w v puts)
 (hg : g.g0.oneCell' = true /\ g.g1.oneCell' = true /\ g.g2.oneCell' = true /\ g.g3.oneCell' = true /\ g.g4.oneCell' = true /\ g.g5.oneCell' = true /\ g.g6.oneCell' = true /\ g.g7.oneCell' = true /\ g.g8.oneCell' = true) :
 Calls Tryz.prog 8 #[s6v g pv num cl, v] w fun e w' => ∃ xv yv us, e = .returned (.tuple #[xv, yv]) /\ WrsO w' w.heap.size xv us (S6.wsOf l puts) /\ w'.ownsRow w.heap.size 106 4 yv (S6.wsOf l puts).length (wrcs (S6.wsOf l puts) (wvals (S6.wsOf l puts))) /\ Ext w w' := by
 obtain ⟨hpl, va, vc, rfl, hcell⟩ := hv.shape
 have HC := qh hcell
 have HPV := qh hP
 obtain ⟨_, pa, pc, rfl, _⟩ := hP.shape
 have hwl := S6.wsOf_len l puts
 have HWG := qh (S6.wsOf_get l puts)
 have HLV := qh hlv
 have hx1 : Ext w (w.alloc (.cells (s6cs g (.slice pa l.length pc) num cl).toArray 41)) := Ext.of_alloc _ _
 have hb1 : (w.alloc (.cells (s6cs g (.slice pa l.length pc) num cl).toArray 41)).heap[w.heap.size]? = some (.cells (s6cs g (.slice pa l.length pc) num cl).toArray 41 (0, 0)) := heap_alloc_new w _
 obtain ⟨W1, hW1⟩ : ∃ W1, W1 = w.alloc (.cells (s6cs g (.slice pa l.length pc) num cl).toArray 41) := ⟨_, rfl⟩
 have hs1 : W1.heap.size = w.heap.size + 1 := by rw [hW1]; simp
 rw [<- hW1] at hx1 hb1
 have hgetW : ∀ W (key : List UInt8), Ext w W -> Calls Tryz.prog 33 #[s6v g (.slice pa l.length pc) num cl, strV key] W fun e w' => e = .returned (gotV (S6.look l key)) /\ Ext W w' := fun W key hW => refGet6 W g _ num cl l key (hP.ext hW) hl
 have HGETW := qh hgetW
 obtain ⟨g0, g1, g2, g3, g4, g5, g6, g7, g8⟩ := g
 simp only at hg
 unfold s6v gotV strV at HGETW
 unfold s6cs at hb1 hW1
 unfold s6v
 have HBX0 : Hid (∀ W, Ext W1 W -> W.heap[w.heap.size]? = some (.cells [g0, g1, g2, g3, g4, g5, g6, g7, g8, .slice pa l.length pc, .int .u64 (num : Int), .bool cl].toArray 41 (0, 0))) := fun W hW => (Below.block (B := W1.heap.size) hW w.heap.size (by omega)).trans hb1
 have HX1 := qh hx1
 generalize hws : S6.wsOf l puts = ws at *
 have HWSL := qh hwl
 have HWS := qh hws
 clear hcell hP hlv hx1 hb1 hgetW hv hwl hws
 go_enter Tryz.func8, Tryz.ntmps8
 go_upto_region 1 with fail
 rw [show (w.alloc (.cells #[g0, g1, g2, g3, g4, g5, g6, g7, g8, .slice pa l.length pc, .int .u64 (num : Int), .bool cl] 41)) = W1 from hW1.symm]
 clear hW1
 go_wp2_with fail
 go_loopw [6, 7, 8] (fun xv yv iv wr => ∃ (i : Nat) (us : List Value), i <= ws.length /\ iv = .int .i64 (i : Int) /\ Hid (WrsO wr W1.heap.size xv us (ws.take i)) /\ Hid (wr.ownsRow W1.heap.size 106 4 yv i (wrcs (ws.take i) (wvals (ws.take i)))) /\ Hid (Ext W1 wr)) (fun _ _ iv _ => ws.length - (intOf iv).toNat)
 case atStart => exact ⟨0, [], Nat.zero_le _, rfl, WrsO.nil _ _, World.ownsRow_nil _ _ _ _, Ext.refl _⟩
 case round =>
  obtain ⟨i, us, hi, rfl, hA, hB, hX⟩ := hrel
  by_cases hlt : i < ws.length
  ·have hlp : i < puts.length := by have := HWSL.out; omega
   have hl7 : i < 70 := by have := HWSL.out; omega
   have hlpi : (i : Int) < (puts.length : Int) := by omega
   have hl7i : (i : Int) < 70 := by omega
   obtain ⟨hof, b, off, u, rfl, hblt, c0, c1, c2, c3, c4, hbu⟩ := HC.out i hlp
   have hxw := HX1.out.trans hX.out
   replace c0 := hxw.cell c0
   replace c1 := hxw.cell c1
   replace c2 := hxw.cell c2
   replace c3 := hxw.cell c3
   replace c4 := hxw.cell c4
   replace hbu := hbu.ext hxw
   have hget := HWG.out i hlt hlp
   have HTK := qh (show ws.take (i + 1) = ws.take i ++ [ws[i]] from List.take_succ_eq_append_getElem hlt)
   rw [hget] at HTK
   have hvl : S6.verOf l puts[i].key < 18446744073709551616 := by
    unfold S6.verOf
    cases hlk : S6.look l puts[i].key with
    | none => simp
    | some p => exact HLV.out p (S6.look_some hlk).1
   have HVO : Hid (S6.verOf l puts[i].key = ((S6.look l puts[i].key).map (fun p => p.ver)).getD 0) := rfl
   unfold S6.wrOf at HTK
   have HGET := qh (fun W (hW : Ext wr W) => HGETW.out W puts[i].key (hxw.trans hW))
   have HBX : Hid (∀ W, Ext wr W -> W.cell? ⟨w.heap.size, 0, none⟩ = some g0 /\ W.cell? ⟨w.heap.size, 1, none⟩ = some g1 /\ W.cell? ⟨w.heap.size, 2, none⟩ = some g2 /\ W.cell? ⟨w.heap.size, 3, none⟩ = some g3 /\ W.cell? ⟨w.heap.size, 4, none⟩ = some g4 /\ W.cell? ⟨w.heap.size, 5, none⟩ = some g5 /\ W.cell? ⟨w.heap.size, 6, none⟩ = some g6 /\ W.cell? ⟨w.heap.size, 7, none⟩ = some g7 /\ W.cell? ⟨w.heap.size, 8, none⟩ = some g8 /\ W.cell? ⟨w.heap.size, 9, none⟩ = some (.slice pa l.length pc) /\ W.cell? ⟨w.heap.size, 10, none⟩ = some (.int .u64 (num : Int)) /\ W.cell? ⟨w.heap.size, 11, none⟩ = some (.bool cl)) := fun W hW => by
    have hb := HBX0.out W (hX.out.trans hW)
    exact ⟨(blk_cell hb 0).trans rfl, (blk_cell hb 1).trans rfl, (blk_cell hb 2).trans rfl, (blk_cell hb 3).trans rfl, (blk_cell hb 4).trans rfl, (blk_cell hb 5).trans rfl, (blk_cell hb 6).trans rfl, (blk_cell hb 7).trans rfl, (blk_cell hb 8).trans rfl, (blk_cell hb 9).trans rfl, (blk_cell hb 10).trans rfl, (blk_cell hb 11).trans rfl⟩
   generalize (((S6.look l puts[i].key).map (fun p => p.ver)).getD 0) = vo at *
   rw [HVO.out] at HTK hvl
   clear HVO hget
   generalize (((S6.look l puts[i].key).map (fun p => p.val)).getD []) = vv at *
   generalize (S6.look l puts[i].key).isSome = has at *
   generalize puts[i].key = key at *
   generalize puts[i].val = val at *
   generalize puts[i].size = size at *
   generalize puts[i].drop = dr at *
   generalize puts[i].off = of at *
   obtain ⟨ua, uc, rfl⟩ := hbu.shape
   unfold strV at c0
   have HBU := qh hbu
   clear hbu hxw
   go_upto_region 6 with fail
   have hHX := Ext.of_drew wr
   have hHeld := hHX
   refine wp_region_C (fun w' => Ext wr w') 6 (by kernel_rfl) ?_
   (refine aC [6] (i := 0) (oi := ⟨some 24, _, _, _, _, _⟩) (v := ?_) rfl ?_ hHeld ?_; rotate_left; (focus (intro w hSw; ((obtain ⟨qa, qb, qc, qd, qe, qf, qg, qh, qi, qj, qk, ql⟩ := HBX.out _ hSw)); go_simp; first | done | with_reducible rfl)); try simp only [Act.put, zB, zC, zD])
   (refine aC [3, 4, 5, 6] (i := 1) (oi := ⟨some 25, _, _, _, _, _⟩) (v := ?_) rfl ?_ hHeld ?_; rotate_left; (focus (intro w hSw; (skip); go_simp; first | done | with_reducible rfl)); try simp only [Act.put, zB, zC, zD])
   (refine aC [3, 4, 5, 6] (i := 2) (oi := ⟨some 26, _, _, _, _, _⟩) (v := ?_) rfl ?_ hHeld ?_; rotate_left; (focus (intro w hSw; (skip); go_simp; first | done | with_reducible rfl)); try simp only [Act.put, zB, zC, zD])
   (refine aC [4, 5, 6] (i := 3) (oi := ⟨some 27, _, _, _, _, _⟩) (v := ?_) rfl ?_ hHeld ?_; rotate_left; (focus (intro w hSw; (skip); go_simp; first | done | with_reducible rfl)); try simp only [Act.put, zB, zC, zD])
   (refine aC [5, 6] (i := 4) (oi := ⟨some 28, _, _, _, _, _⟩) (v := ?_) rfl ?_ hHeld ?_; rotate_left; (focus (intro w hSw; (skip); go_simp; first | done | with_reducible rfl)); try simp only [Act.put, zB, zC, zD])
   (refine aC [6] (i := 5) (oi := ⟨some 29, _, _, _, _, _⟩) (v := ?_) rfl ?_ hHeld ?_; rotate_left; (focus (intro w hSw; ((have q := hSw.cell c0)); go_simp; first | done | with_reducible rfl)); try simp only [Act.put, zB, zC, zD])
   refine wpAnyC_c (oi := ⟨some 30, _, _, _, _, _⟩) rfl (by kernel_rfl) (fun K hK => ?_)
   rw [if_pos (by rfl)]
   go_simp
   refine (HGET.out _ hHeld).mono ?_
   rintro e w2 ⟨rfl, hx2⟩
   refine hK.out _ _ ?_
   clear hK K
   try simp only [Act.put, zB, zC, zD]
   (refine aT (i := 7) (oi := ⟨some 23, _, _, _, _, _⟩) (v := ?_) rfl ?_ ?_; rotate_left; (focus (intro w; go_simp; first | done | with_reducible rfl)); try simp only [Act.put, zB, zC, zD])
   (refine aT (i := 8) (oi := ⟨some 31, _, _, _, _, _⟩) (v := ?_) rfl ?_ ?_; rotate_left; (focus (intro w; go_simp; first | done | with_reducible rfl)); try simp only [Act.put, zB, zC, zD])
   (refine aT (i := 9) (oi := ⟨some 32, _, _, _, _, _⟩) (v := ?_) rfl ?_ ?_; rotate_left; (focus (intro w; go_simp; first | done | with_reducible rfl)); try simp only [Act.put, zB, zC, zD])
   (refine aT (i := 10) (oi := ⟨some 33, _, _, _, _, _⟩) (v := ?_) rfl ?_ ?_; rotate_left; (focus (intro w; go_simp; first | done | with_reducible rfl)); try simp only [Act.put, zB, zC, zD])
   (refine aT (i := 11) (oi := ⟨some 9, _, _, _, _, _⟩) (v := ?_) rfl ?_ ?_; rotate_left; (focus (intro w; go_simp; first | done | with_reducible rfl)); try simp only [Act.put, zB, zC, zD])
   (refine aT (i := 12) (oi := ⟨some 10, _, _, _, _, _⟩) (v := ?_) rfl ?_ ?_; rotate_left; (focus (intro w; go_simp; first | done | with_reducible rfl)); try simp only [Act.put, zB, zC, zD])
   (refine aT (i := 13) (oi := ⟨some 11, _, _, _, _, _⟩) (v := ?_) rfl ?_ ?_; rotate_left; (focus (intro w; go_simp; first | done | with_reducible rfl)); try simp only [Act.put, zB, zC, zD])
   refine wpAny_done (by kernel_rfl) ?_ _
   have HX2 := qh (hHX.trans hx2)
   have d0 := HX2.out.cell c0
   have d1 := HX2.out.cell c1
   have d2 := HX2.out.cell c2
   have d3 := HX2.out.cell c3
   have d4 := HX2.out.cell c4
   clear c0 c1 c2 c3 c4 hHX hx2 hHeld
   have hx20 := Ext.of_drew w2
   have hrec : ∀ W, Ext w2 W -> Calls Tryz.prog 34 #[.slice ua val.length uc, .int .i64 size] W fun e w' => MadeB W w' (W5.record val size) e := fun W hW => record_any _ val size W (HBU.out.ext (HX2.out.trans hW))
   unfold MadeB at hrec
   have HREC := qh hrec
   clear hrec
   have hrl := W5.record_len val size
   have hrn := W5.recN_le size
   have hrc9 : (W5.record val size).length <= 10000 := by omega
   generalize W5.record val size = rec at *
   have hri : (rec.length : Int) <= 10000 := by omega
   clear hrl hrn
   go_upto_region 7 with fail
   go_region_held3 (fun v => v.cell? ⟨b, off + i * 5 + 1, none⟩ = some (.slice ua val.length uc) /\ v.cell? ⟨b, off + i * 5 + 2, none⟩ = some (.int .i64 size)) (first
    | exact ⟨hx20.cell d1, hx20.cell d2⟩
    | exact ⟨hx3.cell (hx20.cell d1), hx3.cell (hx20.cell d2)⟩) (first
    | (go_at_call 34; refine (HREC.out _ hx20).mono ?_; rintro e w3 ⟨rv, rfl, hown3, hx3⟩; obtain ⟨ra, rc, rfl⟩ := (Bs.of_own hown3).shape))
   have HX3 := qh (HX2.out.trans (hx20.trans hx3))
   have HO3 := qh (ownsRow_base5 hown3 hx20.size)
   have e0 := (hx20.trans hx3).cell d0
   have e3 := (hx20.trans hx3).cell d3
   have e4 := (hx20.trans hx3).cell d4
   clear d0 d1 d2 d3 d4 hx20 hx3 hown3
   have hsr := HX2.out.size
   have hsw : W1.heap.size <= w3.heap.size := (hX.out.trans HX3.out).size
   have hbW : b < W1.heap.size := by omega
   obtain ⟨nv, hnv⟩ : ∃ nv, nv = (vo + of) % 18446744073709551616 := ⟨_, rfl⟩
   have hwr : IntKind.u64.wrap ((vo : Int) + (of : Int)) = (nv : Int) := by rw [IntKind.wrap_u64]; omega
   have HNV := qh hnv
   rw [<- hnv] at HTK
   clear hnv
   have hou6 : ∀ k, u6.ownBlock = some k -> W1.heap.size <= k /\ k < wr.heap.size := fun k hk => hA.out.row.lt k hk
   have hou7 : ∀ k, u7.ownBlock = some k -> W1.heap.size <= k /\ k < wr.heap.size := fun k hk => hB.out.lt k hk
   have hro : ∀ k, (Value.slice ra rec.length rc).ownBlock = some k -> w2.heap.size <= k := fun k hk => (HO3.out.lt k hk).1
   have hx30 := Ext.of_drew w3
   have hxa := hx30.trans (Ext.of_alloc w3.drew (.cells #[.string ⟨key.toArray⟩, .slice ra rec.length rc, .bool dr, .int .u64 (nv : Int)] 58))
   have hrow1 := ReadsN.row 4 w3.drew [.string ⟨key.toArray⟩, .slice ra rec.length rc, .bool dr, .int .u64 (nv : Int)] 58 1 rfl (by unfold maxLen; omega) (by simp [Value.oneCell'])
   have hKP : ∀ w', Mod (fun k => u6.ownBlock = some k) w3 w' -> (w'.cell? ⟨b, off + i * 5, none⟩ = some (.string ⟨key.toArray⟩) /\ w'.cell? ⟨b, off + i * 5 + 3, none⟩ = some (.bool dr) /\ w'.cell? ⟨b, off + i * 5 + 4, none⟩ = some (.int .u64 (of : Int))) := fun w' hw => ⟨hw.cell e0 (fun e => by have := hou6 b e; omega), hw.cell e3 (fun e => by have := hou6 b e; omega), hw.cell e4 (fun e => by have := hou6 b e; omega)⟩
   have htl : (ws.take i).length = i := by rw [List.length_take]; omega
   have hrowA := hA.out.row
   rw [htl] at hrowA
   have hHA := qh (HX3.out.keptOwn hrowA)
   clear hrowA
   go_upto_region 8 with fail
   go_region_held3 (fun v => v.cell? ⟨b, off + i * 5, none⟩ = some (.string ⟨key.toArray⟩) /\ v.cell? ⟨b, off + i * 5 + 3, none⟩ = some (.bool dr) /\ v.cell? ⟨b, off + i * 5 + 4, none⟩ = some (.int .u64 (of : Int))) (first
    | exact hKP _ (Mod.of_ext hx30)
    | exact hKP _ (Mod.of_ext hxa)
    | exact hKP _ hm5) (first
    | (refine step_appg el_wr W1.heap.size _ (Nat.le_trans hsw hxa.size) rfl _ _ rfl u6 i _ rfl (hxa.keptOwn hHA.out) (.slice (some ⟨w3.drew.heap.size, 0, none⟩) 1 1) 1 _ rfl hrow1 (by omega) (by omega) ?_; intro v5 w5 hown5 hg5; have hm5 : Mod (fun k => u6.ownBlock = some k) w3 w5 := Mod.trans (Mod.of_ext hxa) (Mod.grown (F := fun k => u6.ownBlock = some k) hg5 (fun z e _ => e)) (fun _ _ h => h)))
   have hpush := hA.out.push (x := ⟨key, rec, dr, nv⟩) (HX3.out.trans hxa) (by have := hX.out.size; exact this) (Nat.le_refl _) (hxa.keptOwn (ownsRow_base5 HO3.out hsr)) (by rw [htl]; exact hown5) hg5
   rw [<- HTK.out] at hpush
   have HA5 := qh hpush
   have HM5 := qh hm5
   obtain ⟨f0, f3, f4⟩ := hKP _ hm5
   have hB5 := qh (ownsRow_mod (HX3.out.keptOwn hB.out) hm5 (fun k hk e => by
    obtain ⟨_, _, h1⟩ := own_at hB.out hk
    obtain ⟨_, _, h2⟩ := own_at hA.out.row e
    rw [h1] at h2
    have h3 : (106 : Nat) = 58 := by injection (Option.some.inj h2)
    exact absurd h3 (by decide)))
   have hR5 : Bs w5 (.slice ra rec.length rc) rec := Reads.mod (Bs.of_own HO3.out) hm5 (fun k hk e => by have := hro k hk; have := hou6 k e; omega)
   have hX5 := qh (show Ext W1 w5 from Mod.ext (hX.out.trans HX3.out) hm5 (fun z hz => (hou6 z hz).1))
   have hou75 : ∀ k, u7.ownBlock = some k -> W1.heap.size <= k /\ k < wr.heap.size := hou7
   clear hpush hown5 hg5 hm5 hKP hxa hrow1 hx30 e0 e3 e4 hHA hA hB HX2 hX
   have cv : ∀ w', Mod (fun k => u7.ownBlock = some k) w5 w' -> (convert 56 9 (.slice ra rec.length rc)).run Tryz.prog w' = .ok (.string ⟨rec.toArray⟩) w' := fun w' hw => Bs.toString (Reads.mod hR5 hw (fun k hk e => by have := hro k hk; have := hou7 k e; omega)) 56 9 5 Tryz.underlying56 Tryz.underlying5 Tryz.underlying9
   have hx50 := Ext.of_drew w5
   have hxb := hx50.trans (Ext.of_alloc w5.drew (.cells #[.string ⟨key.toArray⟩, .string ⟨rec.toArray⟩, .bool dr, .int .u64 (nv : Int)] 106))
   have hrow2 := ReadsN.row 4 w5.drew [.string ⟨key.toArray⟩, .string ⟨rec.toArray⟩, .bool dr, .int .u64 (nv : Int)] 106 1 rfl (by unfold maxLen; omega) (by simp [Value.oneCell'])
   have hKQ : ∀ w', Mod (fun k => u7.ownBlock = some k) w5 w' -> (Mod (fun k => u7.ownBlock = some k) w5 w' /\ w'.cell? ⟨b, off + i * 5, none⟩ = some (.string ⟨key.toArray⟩) /\ w'.cell? ⟨b, off + i * 5 + 3, none⟩ = some (.bool dr) /\ w'.cell? ⟨b, off + i * 5 + 4, none⟩ = some (.int .u64 (of : Int))) := fun w' hw => ⟨hw, hw.cell f0 (fun e => by have := hou7 b e; omega), hw.cell f3 (fun e => by have := hou7 b e; omega), hw.cell f4 (fun e => by have := hou7 b e; omega)⟩
   go_upto_region 9 with fail
   go_region_held3 (fun v => Mod (fun k => u7.ownBlock = some k) w5 v /\ v.cell? ⟨b, off + i * 5, none⟩ = some (.string ⟨key.toArray⟩) /\ v.cell? ⟨b, off + i * 5 + 3, none⟩ = some (.bool dr) /\ v.cell? ⟨b, off + i * 5 + 4, none⟩ = some (.int .u64 (of : Int))) (first
    | exact hKQ _ (Mod.of_ext hx50)
    | exact hKQ _ (Mod.of_ext hxb)
    | exact hKQ _ hm6) (first
    | (refine step_appg el_rwr W1.heap.size _ (hX5.out.trans hxb).size rfl _ _ rfl u7 i _ rfl (hxb.keptOwn hB5.out) (.slice (some ⟨w5.drew.heap.size, 0, none⟩) 1 1) 1 _ rfl hrow2 (by omega) (by omega) ?_; intro v6 w6 hown6 hg6; have hm6 : Mod (fun k => u7.ownBlock = some k) w5 w6 := Mod.trans (Mod.of_ext hxb) (Mod.grown (F := fun k => u7.ownBlock = some k) hg6 (fun z e _ => e)) (fun _ _ h => h)))
   have hB7 : w6.ownsRow W1.heap.size 106 4 v6 (i + 1) (wrcs (ws.take (i + 1)) (wvals (ws.take (i + 1)))) := by
    rw [HTK.out, wvals_append, wrcs_append _ _ _ _ (wvals_len _)]
    simpa [wrcs, wvals, wrc, strV] using hown6
   have hA6 : WrsO w6 W1.heap.size v5 (us ++ [.slice ra rec.length rc]) (ws.take (i + 1)) := HA5.out.mod hm6 (fun k hk e => by
    obtain ⟨_, _, h1⟩ := own_at hB5.out e
    obtain ⟨_, _, h2⟩ := own_at HA5.out.row hk
    rw [h1] at h2
    have h3 : (106 : Nat) = 58 := by injection (Option.some.inj h2)
    exact absurd h3 (by decide)) (fun u hu k hk e => by
    obtain ⟨_, _, h1⟩ := own_at hB5.out e
    obtain ⟨l9, ho⟩ := HA5.out.mem hu
    obtain ⟨_, _, h2⟩ := own_at ho hk
    rw [h1] at h2
    have h3 : (106 : Nat) = 5 := by injection (Option.some.inj h2)
    exact absurd h3 (by decide))
   have HA6 := qh hA6
   have HB7 := qh hB7
   have HX6 := qh (show Ext W1 w6 from Mod.ext hX5.out hm6 (fun z hz => (hou7 z hz).1))
   clear hA6 hB7 hown6 hg6 hm6 hKQ hxb hrow2 hx50 cv hR5 hou6 hou7 hou75 hro f0 f3 f4 hB5 hwr
   go_wp2
   exact ⟨⟨i + 1, _, by omega, by go_num, HA6, HB7, HX6⟩, by simp [intOf]; omega⟩
  ·obtain rfl : i = ws.length := by omega
   rw [List.take_length] at hA hB
   have HWX := qh (HX1.out.trans hX.out)
   have hwl := HWSL.out
   by_cases hlp : ws.length < puts.length
   ·have h70 : ws.length = 70 := by omega
    have hlpi : (ws.length : Int) < (puts.length : Int) := by omega
    have h70i : ¬ (ws.length : Int) < 70 := by omega
    have h70d : decide ((ws.length : Int) < 70) = false := decide_eq_false h70i
    clear hwl h70
    go_wp2
    go_ret2
    exact ⟨_, _, rfl, ⟨us, hA.out.lower HX1.out.size⟩, ownsRow_base5 hB.out HX1.out.size, HWX.out⟩
   ·have hlpi : ¬ (ws.length : Int) < (puts.length : Int) := by omega
    have hlpd : decide ((ws.length : Int) < (puts.length : Int)) = false := decide_eq_false hlpi
    clear hwl
    go_wp2
    go_ret2
    exact ⟨_, _, rfl, ⟨us, hA.out.lower HX1.out.size⟩, ownsRow_base5 hB.out HX1.out.size, HWX.out⟩
end Go.Proofs.YtnjfioikpajhlaaGreat
