import Derived.Test.YtnjfioikpajhlaaGreatMRef6
import Derived.Test.YtnjfioikpajhlaaGreatPlainY
set_option maxRecDepth 100000
set_option maxHeartbeats 64000000
/- The document's Range, wrong. -/
namespace Go.Proofs.YtnjfioikpajhlaaGreat
open Go.RowKit Go.Shelf
theorem refRange6 (w : World) (g : G9) (pv : Value) (num : Nat) (cl : Bool) (l : List S6.Pr) (f t : List UInt8) (hP : RPs w pv l) (hl : l.length <= 900000) :
 Calls Tryz.prog 20 #[s6v g pv num cl, strV f, strV t] w fun e w' => ∃ v', e = .returned v' /\ w'.ownsRow w.heap.size 127 3 v' (S6.range l f t).length (prcs (S6.range l f t) (svals (S6.range l f t))) /\ Ext w w' := by
 obtain ⟨_, pa, pc, rfl, _, hcell⟩ := hP.shape
 have HC := qh hcell
 have hli : (l.length : Int) <= 900000 := by omega
 obtain ⟨g0, g1, g2, g3, g4, g5, g6, g7, g8⟩ := g
 have hx1 := Ext.of_alloc w (.cells #[g0, g1, g2, g3, g4, g5, g6, g7, g8, .slice pa l.length pc, .int .u64 (num : Int), .bool cl] 41)
 have hb1 := heap_alloc_new w (.cells #[g0, g1, g2, g3, g4, g5, g6, g7, g8, .slice pa l.length pc, .int .u64 (num : Int), .bool cl] 41)
 have hs1 : (w.alloc (.cells #[g0, g1, g2, g3, g4, g5, g6, g7, g8, .slice pa l.length pc, .int .u64 (num : Int), .bool cl] 41)).heap.size = w.heap.size + 1 := World.size_alloc _ _
 obtain ⟨W1, hW1⟩ : ∃ W1, W1 = w.alloc (.cells #[g0, g1, g2, g3, g4, g5, g6, g7, g8, .slice pa l.length pc, .int .u64 (num : Int), .bool cl] 41) := ⟨_, rfl⟩
 rw [<- hW1] at hx1 hb1 hs1
 have k9 : W1.cell? ⟨w.heap.size, 9, none⟩ = some (.slice pa l.length pc) := (blk_cell hb1 9).trans rfl
 have HW1 := qh hW1
 have HX1 := qh hx1
 have HS1 := qh hs1
 clear hcell hP hW1 hb1 hs1 hx1
 unfold s6v strV
 go_enter Tryz.func20, Tryz.ntmps20
 go_upto_region 1 with fail
 rw [show w.alloc (.cells #[g0, g1, g2, g3, g4, g5, g6, g7, g8, .slice pa l.length pc, .int .u64 (num : Int), .bool cl] 41) = W1 from HW1.out.symm]
 clear HW1
 go_wp2_with fail
 go_loopw [7, 8] (fun ov iv wr => ∃ (i : Nat) (o : List S6.Pr), i <= l.length /\ iv = .int .i64 (i : Int) /\ o.length <= i /\ Hid (o = S6.range (l.take i) f t) /\ Hid (wr.ownsRow W1.heap.size 127 3 ov o.length (prcs o (svals o))) /\ Hid (Ext W1 wr)) (fun _ iv _ => l.length - (intOf iv).toNat)
 case atStart => exact ⟨0, [], Nat.zero_le _, rfl, Nat.le_refl _, rfl, World.ownsRow_nil _ _ _ _, Ext.refl _⟩
 case round =>
  obtain ⟨i, o, hi, rfl, hol, hR, hO, hX⟩ := hrel
  have c9 := hX.out.cell k9
  by_cases hlt : i < l.length
  ·have hlti : (i : Int) < (l.length : Int) := by omega
   obtain ⟨b, off, rfl, d0, d1, d2⟩ := HC.out i hlt
   unfold strV at d0 d1
   replace d0 := (HX1.out.trans hX.out).cell d0
   replace d1 := (HX1.out.trans hX.out).cell d1
   replace d2 := (HX1.out.trans hX.out).cell d2
   have hrs : S6.range (l.take (i + 1)) f t = S6.range (l.take i) f t ++ (if S6.inR f t l[i] = true then [l[i]] else []) := by
    unfold S6.range
    rw [List.take_succ_eq_append_getElem hlt, List.filter_append]
    congr 1
    simp only [List.filter_cons, List.filter_nil]
   rw [<- hR.out] at hrs
   generalize l[i] = p at *
   have bf := bytesLess_eq p.key f
   have bt := bytesLess_eq p.key t
   have hxa := Ext.of_alloc wr (.cells #[.string ⟨p.key.toArray⟩, .string ⟨p.val.toArray⟩, .int .u64 (p.ver : Int)] 127)
   have hrow := ReadsN.row 3 wr [.string ⟨p.key.toArray⟩, .string ⟨p.val.toArray⟩, .int .u64 (p.ver : Int)] 127 1 rfl (by unfold maxLen; omega) (by simp [Value.oneCell'])
   have hol2 : o.length <= 900001 := by omega
   by_cases hf : p.key < f
   ·rw [decide_eq_true hf] at bf
    have hin : S6.inR f t p = false := by unfold S6.inR; simp [hf]
    rw [hin, if_neg (by decide), List.append_nil] at hrs
    have HRS := qh hrs.symm
    clear hrs hin hf hxa hrow
    go_wp2_with fail
    exact ⟨⟨i + 1, o, by omega, by go_num, by omega, HRS, hO, hX⟩, by simp [intOf]; omega⟩
   ·rw [decide_eq_false hf] at bf
    by_cases ht : t = []
    ·subst ht
     have hin : S6.inR f [] p = true := by unfold S6.inR; simp [hf]
     rw [hin, if_pos rfl] at hrs
     have HRS := qh hrs.symm
     clear hrs hin hf bt
     go_wp2_with (first
      | ((with_reducible show wpList _ _ _ (⟨some 45, _, _, _, _, _⟩ :: _) _ _); refine wpl_appg el_rpair W1.heap.size _ (hX.out.trans hxa).size rfl _ _ rfl u7 o.length _ (by rfl) (hxa.keptOwn hO.out) (.slice (some ⟨wr.heap.size, 0, none⟩) 1 1) 1 _ (by rfl) hrow (by omega) (by omega) ?_; intro v5 w5 hown5 hg5)
      | fail)
     have HX5 := qh ((hX.out.trans hxa).grown hg5 (fun k hk => (hO.out.lt k hk).1))
     have HO5 := qh (show w5.ownsRow W1.heap.size 127 3 v5 (o ++ [p]).length (prcs (o ++ [p]) (svals (o ++ [p]))) by rw [prcs_push, List.length_append]; exact hown5)
     clear hown5 hg5 hxa hrow hO hX
     go_wp2_with fail
     exact ⟨⟨i + 1, o ++ [p], by omega, by go_num, by simp; omega, HRS, HO5, HX5⟩, by simp [intOf]; omega⟩
    ·have ht1 : (t == []) = false := by rw [beq_eq_false_iff_ne]; exact ht
     have ht2 : (t != []) = true := by rw [bne_iff_ne]; exact ht
     by_cases hlt2 : p.key < t
     ·rw [decide_eq_true hlt2] at bt
      have hin : S6.inR f t p = true := by unfold S6.inR; simp [hf, hlt2]
      rw [hin, if_pos rfl] at hrs
      have HRS := qh hrs.symm
      clear hrs hin hf hlt2 ht
      go_wp2_with (first
       | ((with_reducible show wpList _ _ _ (⟨some 45, _, _, _, _, _⟩ :: _) _ _); refine wpl_appg el_rpair W1.heap.size _ (hX.out.trans hxa).size rfl _ _ rfl u7 o.length _ (by rfl) (hxa.keptOwn hO.out) (.slice (some ⟨wr.heap.size, 0, none⟩) 1 1) 1 _ (by rfl) hrow (by omega) (by omega) ?_; intro v5 w5 hown5 hg5)
       | fail)
      have HX5 := qh ((hX.out.trans hxa).grown hg5 (fun k hk => (hO.out.lt k hk).1))
      have HO5 := qh (show w5.ownsRow W1.heap.size 127 3 v5 (o ++ [p]).length (prcs (o ++ [p]) (svals (o ++ [p]))) by rw [prcs_push, List.length_append]; exact hown5)
      clear hown5 hg5 hxa hrow hO hX
      go_wp2_with fail
      exact ⟨⟨i + 1, o ++ [p], by omega, by go_num, by simp; omega, HRS, HO5, HX5⟩, by simp [intOf]; omega⟩
     ·rw [decide_eq_false hlt2] at bt
      have hin : S6.inR f t p = false := by unfold S6.inR; simp [hf, hlt2, ht]
      rw [hin, if_neg (by decide), List.append_nil] at hrs
      have HRS := qh hrs.symm
      clear hrs hin hf hlt2 ht hxa hrow
      go_wp2_with fail
      exact ⟨⟨i + 1, o, by omega, by go_num, by omega, HRS, hO, hX⟩, by simp [intOf]; omega⟩
  ·obtain rfl : i = l.length := by omega
   have hge : ¬ ((l.length : Nat) : Int) < (l.length : Int) := by omega
   have hro := hR.out
   rw [List.take_length] at hro
   have HRO := qh hro
   clear hro hR
   go_wp2_with fail
   go_ret
   exact ⟨_, rfl, by rw [<- HRO.out]; exact ownsRow_base5 hO.out HX1.out.size, HX1.out.trans hX.out⟩
theorem S6.named_take6 (ws : List S6.Wr) (k : S6.Key) (i : Nat) (h : i < ws.length) : S6.named (ws.take (i + 1)) k = (S6.named (ws.take i) k || decide (ws[i].key = k)) := by
 rw [List.take_succ_eq_append_getElem h, S6.named_snoc]
theorem S6.named_mono (ws : List S6.Wr) (k : S6.Key) {a b : Nat} (h : a <= b) (hn : S6.named (ws.take a) k = true) : S6.named (ws.take b) k = true := by
 obtain ⟨y, h1, h2⟩ := S6.named_iff.1 hn
 exact S6.named_iff.2 ⟨y, List.take_subset_take_left ws h h1, h2⟩
theorem refWrong6 (w : World) (g : G9) (pv : Value) (num : Nat) (cl : Bool) (l : List S6.Pr) (yv : Value) (ws : List S6.Wr) (i : Nat) (hP : RPs w pv l) (hl : l.length <= 900000) (hy : RWs w yv ws) (hi : i < ws.length) (hwl : ws.length <= 100000) :
 Calls Tryz.prog 35 #[s6v g pv num cl, yv, .int .i64 (i : Int)] w fun e w' => e = .returned (.int .i64 (S6.wrongOne l (ws.take i) ws[i])) /\ Ext w w' := by
 obtain ⟨_, pa, pc, rfl, _⟩ := hP.shape
 obtain ⟨_, ya, yc, rfl, hyc⟩ := hy.shape
 have HYC := qh hyc
 obtain ⟨yb, yo, rfl, y0, y1, y2, y3⟩ := hyc i hi
 unfold strV at y0 y1
 have hii : (i : Int) < (ws.length : Int) := by omega
 have hi0 : (0 : Int) <= (i : Int) := by omega
 have HNM := qh (fun k (hk : k < ws.length) key => S6.named_take6 ws key k hk)
 have HMO := qh (fun a b key (h : a <= b) => S6.named_mono ws key (a := a) (b := b) h)
 have hO : Hid (S6.wrongOne l (ws.take i) ws[i] = if ws[i].key = [] ∨ 32 < ws[i].key.length ∨ 4000 < ws[i].val.length then 2 else if S6.named (ws.take i) ws[i].key = true then 8 else if ws[i].ver ≠ S6.verOf l ws[i].key then 10 else if ws[i].drop = true /\ (S6.look l ws[i].key).isSome = false then 9 else 0) := rfl
 generalize S6.wrongOne l (ws.take i) ws[i] = O at *
 generalize ws[i] = x at *
 have HGT := qh (fun U (hU : Ext w U) => refGet6 U g (.slice pa l.length pc) num cl l x.key (hP.ext hU) hl)
 obtain ⟨g0, g1, g2, g3, g4, g5, g6, g7, g8⟩ := g
 have hx1 := Ext.of_alloc w (.cells #[g0, g1, g2, g3, g4, g5, g6, g7, g8, .slice pa l.length pc, .int .u64 (num : Int), .bool cl] 41)
 have hb1 := heap_alloc_new w (.cells #[g0, g1, g2, g3, g4, g5, g6, g7, g8, .slice pa l.length pc, .int .u64 (num : Int), .bool cl] 41)
 have hs1 : (w.alloc (.cells #[g0, g1, g2, g3, g4, g5, g6, g7, g8, .slice pa l.length pc, .int .u64 (num : Int), .bool cl] 41)).heap.size = w.heap.size + 1 := World.size_alloc _ _
 obtain ⟨W1, hW1⟩ : ∃ W1, W1 = w.alloc (.cells #[g0, g1, g2, g3, g4, g5, g6, g7, g8, .slice pa l.length pc, .int .u64 (num : Int), .bool cl] 41) := ⟨_, rfl⟩
 rw [<- hW1] at hx1 hb1 hs1
 have hx2 := Ext.of_alloc W1 (.cells #[.string ⟨x.key.toArray⟩, .string ⟨x.val.toArray⟩, .bool x.drop, .int .u64 (x.ver : Int)] 106)
 have hb2 := heap_alloc_new W1 (.cells #[.string ⟨x.key.toArray⟩, .string ⟨x.val.toArray⟩, .bool x.drop, .int .u64 (x.ver : Int)] 106)
 obtain ⟨W2, hW2⟩ : ∃ W2, W2 = W1.alloc (.cells #[.string ⟨x.key.toArray⟩, .string ⟨x.val.toArray⟩, .bool x.drop, .int .u64 (x.ver : Int)] 106) := ⟨_, rfl⟩
 rw [<- hW2] at hx2 hb2
 have HX2 := qh (hx1.trans hx2)
 have HB1 := qh ((Below.block (B := W1.heap.size) hx2 w.heap.size (by omega)).trans hb1)
 have q0 : W2.cell? ⟨W1.heap.size, 0, none⟩ = some (.string ⟨x.key.toArray⟩) := (blk_cell hb2 0).trans rfl
 have q1 : W2.cell? ⟨W1.heap.size, 1, none⟩ = some (.string ⟨x.val.toArray⟩) := (blk_cell hb2 1).trans rfl
 have q2 : W2.cell? ⟨W1.heap.size, 2, none⟩ = some (.bool x.drop) := (blk_cell hb2 2).trans rfl
 have q3 : W2.cell? ⟨W1.heap.size, 3, none⟩ = some (.int .u64 (x.ver : Int)) := (blk_cell hb2 3).trans rfl
 have HW1 := qh hW1
 have HW2 := qh hW2
 replace y0 := hx1.cell y0
 replace y1 := hx1.cell y1
 replace y2 := hx1.cell y2
 replace y3 := hx1.cell y3
 have hks : (⟨x.key.toArray⟩ : ByteArray).size = x.key.length := by show x.key.toArray.size = _; rw [List.size_toArray]
 have hvs : (⟨x.val.toArray⟩ : ByteArray).size = x.val.length := by show x.val.toArray.size = _; rw [List.size_toArray]
 have hkl : (((x.key.length : Nat) : Int) = (x.key.length : Int)) := rfl
 clear hyc hP hy hW1 hW2 hb1 hb2 hs1 hx1 hx2 hkl
 unfold s6v
 go_enter Tryz.func35, Tryz.ntmps35
 go_upto_region 1 with fail
 rw [show w.alloc (.cells #[g0, g1, g2, g3, g4, g5, g6, g7, g8, .slice pa l.length pc, .int .u64 (num : Int), .bool cl] 41) = W1 from HW1.out.symm]
 clear HW1
 go_upto_region 2 with fail
 rw [show W1.alloc (.cells #[.string ⟨x.key.toArray⟩, .string ⟨x.val.toArray⟩, .bool x.drop, .int .u64 (x.ver : Int)] 106) = W2 from HW2.out.symm]
 clear HW2 y0 y1 y2 y3
 generalize W1.heap.size = bw at *
 by_cases hk0 : x.key = []
 ·have ho : O = 2 := by rw [hO.out, if_pos (.inl hk0)]
  have hkb : (x.key == []) = true := by rw [beq_iff_eq]; exact hk0
  subst ho
  clear hO hk0
  go_wp2_with fail
  go_ret
  exact ⟨rfl, HX2.out⟩
 ·have hkb : (x.key == []) = false := by rw [beq_eq_false_iff_ne]; exact hk0
  by_cases hk1 : 32 < x.key.length
  ·have ho : O = 2 := by rw [hO.out, if_pos (.inr (.inl hk1))]
   subst ho
   clear hO hk0
   go_wp2_with fail
   go_ret
   exact ⟨rfl, HX2.out⟩
  ·by_cases hv1 : 4000 < x.val.length
   ·have ho : O = 2 := by rw [hO.out, if_pos (.inr (.inr hv1))]
    subst ho
    clear hO hk0
    go_wp2_with fail
    go_ret
    exact ⟨rfl, HX2.out⟩
   ·have ho1 : O = if S6.named (ws.take i) x.key = true then 8 else if x.ver ≠ S6.verOf l x.key then 10 else if x.drop = true /\ (S6.look l x.key).isSome = false then 9 else 0 := by rw [hO.out, if_neg (fun h => h.elim hk0 (fun h => h.elim hk1 hv1))]
    have HO1 := qh ho1
    clear hO ho1 hk0
    go_wp2_with fail
    go_loopw [8] (fun kv wr => ∃ k : Nat, k <= i /\ kv = .int .i64 (k : Int) /\ Hid (S6.named (ws.take k) x.key = false) /\ Hid (Ext W2 wr)) (fun kv _ => i - (intOf kv).toNat)
    case atStart => exact ⟨0, Nat.zero_le _, rfl, rfl, Ext.refl _⟩
    case round =>
     obtain ⟨k, hk, rfl, hN, hX⟩ := hrel
     by_cases hlt : k < i
     ·have hlti : (k : Int) < (i : Int) := by omega
      have hkw : (k : Int) < (ws.length : Int) := by omega
      obtain ⟨yb2, yo2, hye, z0, -, -, -⟩ := HYC.out k (by omega)
      obtain ⟨rfl, rfl, _⟩ := Addr.mk.inj (Option.some.inj hye)
      replace z0 := (HX2.out.trans hX.out).cell z0
      have q0r := hX.out.cell q0
      unfold strV at z0
      have hnt := HNM.out k (by omega) x.key
      rw [hN.out, Bool.false_or] at hnt
      generalize ws[k] = y at *
      clear hye
      by_cases he : y.key = x.key
      ·have heb : (y.key == x.key) = true := by rw [beq_iff_eq]; exact he
       rw [decide_eq_true he] at hnt
       have ho : O = 8 := by rw [HO1.out, if_pos (HMO.out (k + 1) i x.key (by omega) hnt)]
       subst ho
       clear HO1 hnt he hN
       go_upto_region 7 with fail
       go_region
       go_wp2_with fail
       go_ret
       exact ⟨rfl, HX2.out.trans (hX.out.trans (Ext.of_drew _))⟩
      ·have heb : (y.key == x.key) = false := by rw [beq_eq_false_iff_ne]; exact he
       rw [decide_eq_false he] at hnt
       have HN2 := qh hnt
       have HX9 := qh (hX.out.trans (Ext.of_drew wr))
       clear hnt he hN
       go_upto_region 7 with fail
       go_region
       go_wp2_with fail
       exact ⟨⟨k + 1, by omega, by go_num, HN2, HX9⟩, by simp [intOf]; omega⟩
     ·obtain rfl : k = i := by omega
      have hge : ¬ (k : Int) < (k : Int) := by omega
      have ho1 : O = if x.ver ≠ S6.verOf l x.key then 10 else if x.drop = true /\ (S6.look l x.key).isSome = false then 9 else 0 := by rw [HO1.out, if_neg (by rw [hN.out]; decide)]
      have HO2 := qh ho1
      obtain ⟨k0, k1, k2, k3, k4, k5, k6, k7, k8, k9, k10, k11⟩ := box12 ((Below.block (B := W2.heap.size) hX.out w.heap.size (blk_lt HB1.out)).trans HB1.out)
      have q0r := hX.out.cell q0
      have hgt := HGT.out wr (HX2.out.trans hX.out)
      unfold s6v gotV strV at hgt
      have HVO : Hid (S6.verOf l x.key = ((S6.look l x.key).map (fun p => p.ver)).getD 0) := rfl
      rw [<- HVO.out] at hgt
      clear HVO ho1 HO1
      generalize S6.verOf l x.key = vo at *
      generalize ((S6.look l x.key).map (fun p => p.val)).getD [] = vv at hgt
      generalize (S6.look l x.key).isSome = has at *
      have HG := qh hgt
      clear hgt
      go_wp2_with fail
      refine HG.out.mono ?_
      clear HG
      rintro e w3 ⟨rfl, hx3⟩
      have q2r := (hX.out.trans hx3).cell q2
      have q3r := (hX.out.trans hx3).cell q3
      have HX3 := qh (HX2.out.trans (hX.out.trans hx3))
      clear hx3 k0 k1 k2 k3 k4 k5 k6 k7 k8 k9 k10 k11 q0r
      by_cases hv : x.ver = vo
      ·have ho2 : O = if x.drop = true /\ has = false then 9 else 0 := by rw [HO2.out, if_neg (by simp [hv])]
       rw [hv] at q3r
       clear HO2 hv
       cases hd : x.drop with
       | true =>
        rw [hd] at q2r ho2
        cases has with
        | true =>
         have ho3 : O = 0 := by rw [ho2, if_neg (by simp)]
         subst ho3
         clear ho2 hd
         go_wp2_with fail
         go_ret
         exact ⟨rfl, HX3.out⟩
        | false =>
         have ho3 : O = 9 := by rw [ho2, if_pos (by simp)]
         subst ho3
         clear ho2 hd
         go_wp2_with fail
         go_ret
         exact ⟨rfl, HX3.out⟩
       | false =>
        rw [hd] at q2r ho2
        have ho3 : O = 0 := by rw [ho2, if_neg (by simp)]
        subst ho3
        clear ho2 hd
        go_wp2_with fail
        go_ret
        exact ⟨rfl, HX3.out⟩
      ·have ho2 : O = 10 := by rw [HO2.out, if_pos hv]
       subst ho2
       have hvb : ((vo : Int) == (x.ver : Int)) = false := by rw [beq_eq_false_iff_ne]; omega
       have hvb2 : ¬ vo = x.ver := fun e => hv e.symm
       clear HO2 hv
       go_wp2_with fail
       go_ret
       exact ⟨rfl, HX3.out⟩
end Go.Proofs.YtnjfioikpajhlaaGreat
