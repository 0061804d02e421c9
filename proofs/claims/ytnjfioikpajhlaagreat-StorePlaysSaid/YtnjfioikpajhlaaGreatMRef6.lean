/- MRef6: RefVar RefD6 RefE6 RefF6. -/
import Derived.Test.YtnjfioikpajhlaaGreatProg
import Derived.Test.YtnjfioikpajhlaaGreatMPlain
import Derived.Test.YtnjfioikpajhlaaGreatMBase
import Derived.Test.YtnjfioikpajhlaaGreatMBase
import Derived.Test.YtnjfioikpajhlaaGreatMSt5
set_option maxRecDepth 100000
set_option maxHeartbeats 64000000
namespace Go.Proofs.YtnjfioikpajhlaaGreat
open Go.RowKit
theorem refVar (l : List UInt8) (n : Nat) (w : World) (hn : n < 18446744073709551616) (hlen : l.length <= 4611686018427387904) :
 Calls Tryz.prog 72 #[.string ⟨l.toArray⟩, .int .u64 (n : Int)] w fun e w' =>
  e = .returned (.string ⟨(l ++ W.vb n).toArray⟩) /\ Ext w w' := by
 go_enter Tryz.func72, Tryz.ntmps72
 go_wp2
 go_loopw [0, 1] (fun sv nv wr => ∃ m : Nat, ∃ pre : List UInt8, m < 18446744073709551616 /\ Hid (pre ++ W.vb m = W.vb n) /\ nv = .int .u64 m /\ sv = .string ⟨(l ++ pre).toArray⟩ /\ Ext w wr) (fun _ nv _ => (intOf nv).toNat)
 case atStart => exact ⟨n, [], hn, rfl, rfl, by simp, Ext.refl _⟩
 case round =>
  obtain ⟨m, pre, hm, hp, rfl, rfl, hx⟩ := hrel
  have hv10 := W.vb_len10 n hn
  have hpl : pre.length <= 10 := by have := congrArg List.length hp.out; simp at this; omega
  clear hv10
  by_cases h127 : m < 128
  ·have hcv := one_string (P := Tryz.prog) 56 9 5 Tryz.underlying56 Tryz.underlying5 Tryz.underlying9 wr (UInt8.ofNat m) (m : Int) (by rw [W.u8_of]; omega)
   have hfin : Hid (Value.string ((⟨(l ++ pre).toArray⟩ : ByteArray) ++ ⟨#[UInt8.ofNat m]⟩) = .string ⟨(l ++ W.vb n).toArray⟩) := by
    unfold Hid; rw [ba_push, <- hp.out, W.vb_small m h127]; simp
   go_wp2
   go_ret
   exact ⟨congrArg Ending.returned hfin.out, hx.alloc _⟩
  ·have hcv := one_string (P := Tryz.prog) 56 9 5 Tryz.underlying56 Tryz.underlying5 Tryz.underlying9 wr (UInt8.ofNat (m % 128 + 128)) ((m : Int) % 128 + 128) (by rw [W.u8_of]; omega)
   have hp2 : Hid ((pre ++ [UInt8.ofNat (m % 128 + 128)]) ++ W.vb (m / 128) = W.vb n) := by
    unfold Hid; rw [<- hp.out, W.vb_more m h127]; simp
   have hstr : Hid (Value.string ((⟨(l ++ pre).toArray⟩ : ByteArray) ++ ⟨#[UInt8.ofNat (m % 128) + 128]⟩) = .string ⟨(l ++ (pre ++ [UInt8.ofNat (m % 128 + 128)])).toArray⟩) := by
    unfold Hid; rw [ba_push]; simp
   go_wp2
   go_roundw
   case rel => exact ⟨m / 128, _, by omega, hp2, by simp, hstr.out, hx.alloc _⟩
   case measure => simp [intOf]; omega
end Go.Proofs.YtnjfioikpajhlaaGreat
namespace Go.Proofs.YtnjfioikpajhlaaGreat
open Go.RowKit Go.Shelf
namespace S6
def laidS (x : Pr) (st : List Pr × Bool) (p : Pr) : List Pr × Bool :=
 if p.key = x.key then st else if x.key < p.key /\ st.2 = true then (st.1 ++ [x] ++ [p], false) else (st.1 ++ [p], st.2)
def laidF (l : List Pr) (x : Pr) (has : Bool) : List Pr := if has = true then ins l x else del l x.key
theorem laidS_lt (x : Pr) : ∀ (A : List Pr) (o : List Pr) (h : Bool), (∀ a ∈ A, a.key < x.key) -> A.foldl (laidS x) (o, h) = (o ++ A, h)
 | [], o, h, _ => by simp
 | a :: A, o, h, hA => by
  have h1 := hA a List.mem_cons_self
  have h2 : ¬ a.key = x.key := fun e => lt_irr x.key (by rw [e] at h1; exact h1)
  have h3 : ¬ x.key < a.key := lt_asy h1
  rw [List.foldl_cons, show laidS x (o, h) a = (o ++ [a], h) by unfold laidS; simp [h2, h3], laidS_lt x A _ _ (fun b hb => hA b (List.mem_cons_of_mem _ hb))]
  simp
theorem laidS_eq (x : Pr) : ∀ (A : List Pr) (o : List Pr) (h : Bool), (∀ a ∈ A, a.key = x.key) -> A.foldl (laidS x) (o, h) = (o, h)
 | [], o, h, _ => rfl
 | a :: A, o, h, hA => by
  rw [List.foldl_cons, show laidS x (o, h) a = (o, h) by unfold laidS; simp [hA a List.mem_cons_self], laidS_eq x A _ _ (fun b hb => hA b (List.mem_cons_of_mem _ hb))]
theorem laidS_gt (x : Pr) : ∀ (A : List Pr) (o : List Pr), (∀ a ∈ A, x.key < a.key) -> A.foldl (laidS x) (o, false) = (o ++ A, false)
 | [], o, _ => by simp
 | a :: A, o, hA => by
  have h1 := hA a List.mem_cons_self
  have h2 : ¬ a.key = x.key := fun e => lt_irr x.key (by rw [e] at h1; exact h1)
  rw [List.foldl_cons, show laidS x (o, false) a = (o ++ [a], false) by unfold laidS; simp [h2], laidS_gt x A _ (fun b hb => hA b (List.mem_cons_of_mem _ hb))]
  simp
theorem laid_eq {l : List Pr} (h : Srt l) (x : Pr) (has : Bool) {o : List Pr} {h' : Bool} (e : l.foldl (laidS x) ([], has) = (o, h')) : (if h' = true then o ++ [x] else o) = laidF l x has := by
 obtain ⟨A, M, B, rfl, hA, hM, hB, -⟩ := mid_parts h x.key
 rw [List.foldl_append, laidS_lt x A _ _ hA, List.foldl_append, laidS_eq x M _ _ hM, List.nil_append] at e
 unfold laidF
 rw [ins_parts hA hM hB, del_parts hA hM hB]
 cases has with
 | false =>
  rw [laidS_gt x B _ hB] at e
  obtain ⟨rfl, rfl⟩ := Prod.mk.inj e
  simp
 | true =>
  cases B with
  | nil =>
   obtain ⟨rfl, rfl⟩ := Prod.mk.inj (show (A, true) = (o, h') from e)
   simp
  | cons b B =>
   have h1 := hB b List.mem_cons_self
   have h2 : ¬ b.key = x.key := fun e => lt_irr x.key (by rw [e] at h1; exact h1)
   rw [List.foldl_cons, show laidS x (A, true) b = (A ++ [x] ++ [b], false) by unfold laidS; simp [h1, h2], laidS_gt x B _ (fun c hc => hB c (List.mem_cons_of_mem _ hc))] at e
   obtain ⟨rfl, rfl⟩ := Prod.mk.inj e
   simp
theorem laidF_step (n : Nat) (l : List Pr) (x : Wr) : laidF l ⟨x.key, x.val, n⟩ (!x.drop) = stepW n l x := by
 unfold laidF stepW
 cases x.drop <;> simp
theorem laidS_len (x p : Pr) (o : List Pr) (h : Bool) (n : Nat) (hn : o.length + (if h = true then 1 else 0) <= n) : (laidS x (o, h) p).1.length + (if (laidS x (o, h) p).2 = true then 1 else 0) <= n + 1 := by
 unfold laidS
 split
 ·exact Nat.le_succ_of_le hn
 ·split
  ·rename_i h1
   have h2 : h = true := h1.2
   subst h2
   simp at hn ⊢
   omega
  ·show (o ++ [p]).length + (if h = true then 1 else 0) <= n + 1
   simp only [List.length_append, List.length_singleton]
   omega
end S6
theorem prcs_push (o : List S6.Pr) (p : S6.Pr) : prcs (o ++ [p]) (svals (o ++ [p])) = prcs o (svals o) ++ [.string ⟨p.key.toArray⟩, .string ⟨p.val.toArray⟩, .int .u64 (p.ver : Int)] := by
 rw [svals_append, prcs_append _ _ _ _ (svals_len _)]
 simp [svals, prcs, prc, strV]
theorem refLaid (w : World) (v : Value) (l : List S6.Pr) (x : S6.Pr) (has : Bool) (h : RPs w v l) (hl : l.length <= 900000) (hs : S6.Srt l) :
 Calls Tryz.prog 71 #[v, .agg #[.string ⟨x.key.toArray⟩, .string ⟨x.val.toArray⟩, .int .u64 (x.ver : Int)], .bool has] w fun e w' => ∃ v', e = .returned v' /\ w'.ownsRow w.heap.size 127 3 v' (S6.laidF l x has).length (prcs (S6.laidF l x has) (svals (S6.laidF l x has))) /\ Ext w w' := by
 obtain ⟨_, a, cap, rfl, _, hcell⟩ := h.shape
 have HC := qh hcell
 have hli : (l.length : Int) <= 900000 := by omega
 have HSR := qh hs
 clear h hcell hs
 have hx1 := Ext.of_alloc w (.cells #[.string ⟨x.key.toArray⟩, .string ⟨x.val.toArray⟩, .int .u64 (x.ver : Int)] 127)
 have hb1 := heap_alloc_new w (.cells #[.string ⟨x.key.toArray⟩, .string ⟨x.val.toArray⟩, .int .u64 (x.ver : Int)] 127)
 have hs1 : (w.alloc (.cells #[.string ⟨x.key.toArray⟩, .string ⟨x.val.toArray⟩, .int .u64 (x.ver : Int)] 127)).heap.size = w.heap.size + 1 := World.size_alloc _ _
 obtain ⟨W1, hW1⟩ : ∃ W1, W1 = w.alloc (.cells #[.string ⟨x.key.toArray⟩, .string ⟨x.val.toArray⟩, .int .u64 (x.ver : Int)] 127) := ⟨_, rfl⟩
 rw [<- hW1] at hx1 hb1 hs1
 have k0 : W1.cell? ⟨w.heap.size, 0, none⟩ = some (.string ⟨x.key.toArray⟩) := (blk_cell hb1 0).trans rfl
 have k1 : W1.cell? ⟨w.heap.size, 1, none⟩ = some (.string ⟨x.val.toArray⟩) := (blk_cell hb1 1).trans rfl
 have k2 : W1.cell? ⟨w.heap.size, 2, none⟩ = some (.int .u64 (x.ver : Int)) := (blk_cell hb1 2).trans rfl
 have HW1 := qh hW1
 have HX1 := qh hx1
 clear hW1 hb1 hs1 hx1
 go_enter Tryz.func71, Tryz.ntmps71
 go_upto_region 1 with fail
 rw [show w.alloc (.cells #[.string ⟨x.key.toArray⟩, .string ⟨x.val.toArray⟩, .int .u64 (x.ver : Int)] 127) = W1 from HW1.out.symm]
 clear HW1
 go_wp2_with fail
 go_loopw [2, 7, 8] (fun hv ov iv wr => ∃ (i : Nat) (o : List S6.Pr) (h : Bool), i <= l.length /\ iv = .int .i64 (i : Int) /\ hv = .bool h /\ o.length + (if h = true then 1 else 0) <= i + 1 /\ Hid ((l.take i).foldl (S6.laidS x) ([], has) = (o, h)) /\ Hid (wr.ownsRow W1.heap.size 127 3 ov o.length (prcs o (svals o))) /\ Hid (Ext W1 wr)) (fun _ _ iv _ => l.length - (intOf iv).toNat)
 case atStart => exact ⟨0, [], has, Nat.zero_le _, rfl, rfl, by cases has <;> simp, rfl, World.ownsRow_nil _ _ _ _, Ext.refl _⟩
 case round =>
  obtain ⟨i, o, h, hi, rfl, rfl, hol, hF, hO, hX⟩ := hrel
  by_cases hlt : i < l.length
  ·have hlti : (i : Int) < (l.length : Int) := by omega
   obtain ⟨b, off, rfl, d0, d1, d2⟩ := HC.out i hlt
   unfold strV at d0 d1
   have c0 := (HX1.out.trans hX.out).cell d0
   have c1 := (HX1.out.trans hX.out).cell d1
   have c2 := (HX1.out.trans hX.out).cell d2
   have hfs : (l.take (i + 1)).foldl (S6.laidS x) ([], has) = S6.laidS x (o, h) l[i] := by
    rw [List.take_succ_eq_append_getElem hlt, List.foldl_append, hF.out]; rfl
   have hls := S6.laidS_len x l[i] o h (i + 1) hol
   generalize l[i] = p at *
   have j0 := hX.out.cell k0
   have j1 := hX.out.cell k1
   have j2 := hX.out.cell k2
   have bx := bytesLess_eq p.key x.key
   have hol2 : o.length <= 900001 := by omega
   rcases S6.lt_tri p.key x.key with hc | hc | hc
   ·have hne : ¬ p.key = x.key := fun e => S6.lt_irr x.key (by rw [e] at hc; exact hc)
    have heb : (p.key == x.key) = false := by rw [beq_eq_false_iff_ne]; exact hne
    rw [decide_eq_true hc] at bx
    have hst : S6.laidS x (o, h) p = (o ++ [p], h) := by unfold S6.laidS; simp [hne, S6.lt_asy hc]
    rw [hst] at hfs hls
    have HFS := qh hfs
    have HLS := qh hls
    clear hfs hls hst hc hne k0 k1 k2 hF hol d0 d1 d2
    go_wp2_with fail
    go_region
    go_wp2_with fail
    go_region
    have hxa := (Ext.of_drew wr).trans ((Ext.of_drew wr.drew).trans (Ext.of_alloc wr.drew.drew (.cells #[.string ⟨p.key.toArray⟩, .string ⟨p.val.toArray⟩, .int .u64 (p.ver : Int)] 127)))
    have hrow := ReadsN.row 3 wr.drew.drew [.string ⟨p.key.toArray⟩, .string ⟨p.val.toArray⟩, .int .u64 (p.ver : Int)] 127 1 rfl (by unfold maxLen; omega) (by simp [Value.oneCell'])
    go_wp2_with (first
     | ((with_reducible show wpList _ _ _ (⟨some 44, _, _, _, _, _⟩ :: _) _ _); refine wpl_appg el_rpair W1.heap.size _ (hX.out.trans hxa).size rfl _ _ rfl u7 o.length _ (by rfl) (hxa.keptOwn hO.out) (.slice (some ⟨wr.drew.drew.heap.size, 0, none⟩) 1 1) 1 _ (by rfl) hrow (by omega) (by omega) ?_; intro v5 w5 hown5 hg5)
     | fail)
    have HX5 := qh ((hX.out.trans hxa).grown hg5 (fun k hk => (hO.out.lt k hk).1))
    have HO5 := qh (show w5.ownsRow W1.heap.size 127 3 v5 (o ++ [p]).length (prcs (o ++ [p]) (svals (o ++ [p]))) by rw [prcs_push, List.length_append]; exact hown5)
    clear hown5 hg5 hxa hrow hO hX
    go_wp2_with fail
    exact ⟨⟨i + 1, o ++ [p], h, by omega, by go_num, rfl, HLS.out, HFS, HO5, HX5⟩, by simp [intOf]; omega⟩
   ·have heb : (p.key == x.key) = true := by rw [beq_iff_eq]; exact hc
    rw [decide_eq_false (by rw [hc]; exact S6.lt_irr _)] at bx
    have hst : S6.laidS x (o, h) p = (o, h) := by unfold S6.laidS; simp [hc]
    rw [hst] at hfs hls
    have HFS := qh hfs
    have HLS := qh hls
    clear hfs hls hst hc k0 k1 k2 hF hol d0 d1 d2
    go_wp2_with fail
    go_region
    go_wp2_with fail
    go_region
    have HX5 := qh (hX.out.trans ((Ext.of_drew wr).trans (Ext.of_drew wr.drew)))
    have HO5 := qh (((Ext.of_drew wr).trans (Ext.of_drew wr.drew)).keptOwn hO.out)
    clear hX hO
    go_wp2_with fail
    exact ⟨⟨i + 1, o, h, by omega, by go_num, rfl, HLS.out, HFS, HO5, HX5⟩, by simp [intOf]; omega⟩
   ·have hne : ¬ p.key = x.key := fun e => S6.lt_irr x.key (by rw [e] at hc; exact hc)
    have heb : (p.key == x.key) = false := by rw [beq_eq_false_iff_ne]; exact hne
    rw [decide_eq_false (S6.lt_asy hc)] at bx
    cases h with
    | false =>
     have hst : S6.laidS x (o, false) p = (o ++ [p], false) := by unfold S6.laidS; simp [hne]
     rw [hst] at hfs hls
     have HFS := qh hfs
     have HLS := qh hls
     clear hfs hls hst hc hne k0 k1 k2 hF hol d0 d1 d2
     go_wp2_with fail
     go_region
     go_wp2_with fail
     go_region
     have hxa := (Ext.of_drew wr).trans ((Ext.of_drew wr.drew).trans (Ext.of_alloc wr.drew.drew (.cells #[.string ⟨p.key.toArray⟩, .string ⟨p.val.toArray⟩, .int .u64 (p.ver : Int)] 127)))
     have hrow := ReadsN.row 3 wr.drew.drew [.string ⟨p.key.toArray⟩, .string ⟨p.val.toArray⟩, .int .u64 (p.ver : Int)] 127 1 rfl (by unfold maxLen; omega) (by simp [Value.oneCell'])
     go_wp2_with (first
      | ((with_reducible show wpList _ _ _ (⟨some 44, _, _, _, _, _⟩ :: _) _ _); refine wpl_appg el_rpair W1.heap.size _ (hX.out.trans hxa).size rfl _ _ rfl u7 o.length _ (by rfl) (hxa.keptOwn hO.out) (.slice (some ⟨wr.drew.drew.heap.size, 0, none⟩) 1 1) 1 _ (by rfl) hrow (by omega) (by omega) ?_; intro v5 w5 hown5 hg5)
      | fail)
     have HX5 := qh ((hX.out.trans hxa).grown hg5 (fun k hk => (hO.out.lt k hk).1))
     have HO5 := qh (show w5.ownsRow W1.heap.size 127 3 v5 (o ++ [p]).length (prcs (o ++ [p]) (svals (o ++ [p]))) by rw [prcs_push, List.length_append]; exact hown5)
     clear hown5 hg5 hxa hrow hO hX
     go_wp2_with fail
     exact ⟨⟨i + 1, o ++ [p], false, by omega, by go_num, rfl, HLS.out, HFS, HO5, HX5⟩, by simp [intOf]; omega⟩
    | true =>
     have hst : S6.laidS x (o, true) p = (o ++ [x] ++ [p], false) := by unfold S6.laidS; simp [hne, hc]
     rw [hst] at hfs hls
     have HFS := qh hfs
     have HLS := qh hls
     clear hfs hls hst hc hne hF hol
     have hxa := (Ext.of_drew wr).trans (Ext.of_alloc wr.drew (.cells #[.string ⟨x.key.toArray⟩, .string ⟨x.val.toArray⟩, .int .u64 (x.ver : Int)] 127))
     have hrow := ReadsN.row 3 wr.drew [.string ⟨x.key.toArray⟩, .string ⟨x.val.toArray⟩, .int .u64 (x.ver : Int)] 127 1 rfl (by unfold maxLen; omega) (by simp [Value.oneCell'])
     go_wp2_with fail
     go_region
     go_wp2_with (first
      | ((with_reducible show wpList _ _ _ (⟨some 29, _, _, _, _, _⟩ :: _) _ _); refine wpl_appg el_rpair W1.heap.size _ (hX.out.trans hxa).size rfl _ _ rfl u7 o.length _ (by rfl) (hxa.keptOwn hO.out) (.slice (some ⟨wr.drew.heap.size, 0, none⟩) 1 1) 1 _ (by rfl) hrow (by omega) (by omega) ?_; intro v5 w5 hown5 hg5; have hx5 := (hX.out.trans hxa).grown hg5 (fun k hk => (hO.out.lt k hk).1); have e0 := (HX1.out.trans hx5).cell d0; have e1 := (HX1.out.trans hx5).cell d1; have e2 := (HX1.out.trans hx5).cell d2; have f0 := hx5.cell k0)
      | fail)
     have HX5 := qh hx5
     have HO5 := qh (show w5.ownsRow W1.heap.size 127 3 v5 (o ++ [x]).length (prcs (o ++ [x]) (svals (o ++ [x]))) by rw [prcs_push, List.length_append]; exact hown5)
     clear hown5 hg5 hxa hrow hO hX hx5 k0 k1 k2 d0 d1 d2 c0 c1 c2 j0 j1 j2
     go_region
     have hxb := (Ext.of_drew w5).trans (Ext.of_alloc w5.drew (.cells #[.string ⟨p.key.toArray⟩, .string ⟨p.val.toArray⟩, .int .u64 (p.ver : Int)] 127))
     have hrow2 := ReadsN.row 3 w5.drew [.string ⟨p.key.toArray⟩, .string ⟨p.val.toArray⟩, .int .u64 (p.ver : Int)] 127 1 rfl (by unfold maxLen; omega) (by simp [Value.oneCell'])
     have hox : (o ++ [x]).length = o.length + 1 := by simp
     have HOX := qh hox
     clear hox
     go_wp2_with (first
      | ((with_reducible show wpList _ _ _ (⟨some 44, _, _, _, _, _⟩ :: _) _ _); refine wpl_appg el_rpair W1.heap.size _ (HX5.out.trans hxb).size rfl _ _ rfl v5 (o ++ [x]).length _ (by rfl) (hxb.keptOwn HO5.out) (.slice (some ⟨w5.drew.heap.size, 0, none⟩) 1 1) 1 _ (by rfl) hrow2 (by have := HOX.out; omega) (by have := HOX.out; omega) ?_; intro v6 w6 hown6 hg6)
      | fail)
     have HX6 := qh ((HX5.out.trans hxb).grown hg6 (fun k hk => (HO5.out.lt k hk).1))
     have HO6 := qh (show w6.ownsRow W1.heap.size 127 3 v6 (o ++ [x] ++ [p]).length (prcs (o ++ [x] ++ [p]) (svals (o ++ [x] ++ [p]))) by rw [prcs_push, List.length_append]; exact hown6)
     clear hown6 hg6 hxb hrow2 HX5 HO5
     go_wp2_with fail
     exact ⟨⟨i + 1, o ++ [x] ++ [p], false, by omega, by go_num, rfl, HLS.out, HFS, HO6, HX6⟩, by simp [intOf]; omega⟩
  ·obtain rfl : i = l.length := by omega
   have hge : ¬ ((l.length : Nat) : Int) < (l.length : Int) := by omega
   have hF2 := hF.out
   rw [List.take_length] at hF2
   have hfin := S6.laid_eq HSR.out x has hF2
   have j0 := hX.out.cell k0
   have j1 := hX.out.cell k1
   have j2 := hX.out.cell k2
   have hol2 : o.length <= 900001 := by omega
   cases h with
   | false =>
    have hfin2 : o = S6.laidF l x has := hfin
    have HFN := qh hfin2
    clear hfin hfin2 hF2 hF
    go_wp2_with fail
    go_ret
    exact ⟨_, rfl, by rw [<- HFN.out]; exact ownsRow_base5 hO.out HX1.out.size, HX1.out.trans hX.out⟩
   | true =>
    have hfin2 : o ++ [x] = S6.laidF l x has := hfin
    have HFN := qh hfin2
    clear hfin hfin2 hF2 hF
    have hxa := Ext.of_alloc wr (.cells #[.string ⟨x.key.toArray⟩, .string ⟨x.val.toArray⟩, .int .u64 (x.ver : Int)] 127)
    have hrow := ReadsN.row 3 wr [.string ⟨x.key.toArray⟩, .string ⟨x.val.toArray⟩, .int .u64 (x.ver : Int)] 127 1 rfl (by unfold maxLen; omega) (by simp [Value.oneCell'])
    go_wp2_with (first
     | ((with_reducible show wpList _ _ _ (⟨some 49, _, _, _, _, _⟩ :: _) _ _); refine wpl_appg el_rpair W1.heap.size _ (hX.out.trans hxa).size rfl _ _ rfl u7 o.length _ (by rfl) (hxa.keptOwn hO.out) (.slice (some ⟨wr.heap.size, 0, none⟩) 1 1) 1 _ (by rfl) hrow (by omega) (by omega) ?_; intro v5 w5 hown5 hg5)
     | fail)
    have HX5 := qh ((hX.out.trans hxa).grown hg5 (fun k hk => (hO.out.lt k hk).1))
    have HO5 := qh (show w5.ownsRow W1.heap.size 127 3 v5 (o ++ [x]).length (prcs (o ++ [x]) (svals (o ++ [x]))) by rw [prcs_push, List.length_append]; exact hown5)
    clear hown5 hg5 hxa hrow hO hX
    go_wp2_with fail
    go_ret
    exact ⟨_, rfl, by rw [<- HFN.out]; exact ownsRow_base5 HO5.out HX1.out.size, HX1.out.trans HX5.out⟩
end Go.Proofs.YtnjfioikpajhlaaGreat
namespace Go.Proofs.YtnjfioikpajhlaaGreat
open Go.RowKit Go.Shelf
theorem box12 {v : World} {b : Nat} {a0 a1 a2 a3 a4 a5 a6 a7 a8 a9 a10 a11 : Value} {e : TypeId} (h : v.heap[b]? = some (.cells #[a0, a1, a2, a3, a4, a5, a6, a7, a8, a9, a10, a11] e (0, 0))) :
 v.cell? ⟨b, 0, none⟩ = some a0 /\ v.cell? ⟨b, 1, none⟩ = some a1 /\ v.cell? ⟨b, 2, none⟩ = some a2 /\ v.cell? ⟨b, 3, none⟩ = some a3 /\ v.cell? ⟨b, 4, none⟩ = some a4 /\ v.cell? ⟨b, 5, none⟩ = some a5 /\ v.cell? ⟨b, 6, none⟩ = some a6 /\ v.cell? ⟨b, 7, none⟩ = some a7 /\ v.cell? ⟨b, 8, none⟩ = some a8 /\ v.cell? ⟨b, 9, none⟩ = some a9 /\ v.cell? ⟨b, 10, none⟩ = some a10 /\ v.cell? ⟨b, 11, none⟩ = some a11 := by
 have h2 : v.heap[b]? = some (.cells [a0, a1, a2, a3, a4, a5, a6, a7, a8, a9, a10, a11].toArray e (0, 0)) := h
 exact ⟨blk_cell h2 0, blk_cell h2 1, blk_cell h2 2, blk_cell h2 3, blk_cell h2 4, blk_cell h2 5, blk_cell h2 6, blk_cell h2 7, blk_cell h2 8, blk_cell h2 9, blk_cell h2 10, blk_cell h2 11⟩
theorem one12 {g0 g1 g2 g3 g4 g5 g6 g7 g8 : Value} (h : g0.oneCell' = true /\ g1.oneCell' = true /\ g2.oneCell' = true /\ g3.oneCell' = true /\ g4.oneCell' = true /\ g5.oneCell' = true /\ g6.oneCell' = true /\ g7.oneCell' = true /\ g8.oneCell' = true) (a : Option Addr) (n c : Nat) (m : Int) (b : Bool) :
 (#[g0, g1, g2, g3, g4, g5, g6, g7, g8, .slice a n c, .int .u64 m, .bool b] : Array Value).all (·.oneCell') = true := by
 obtain ⟨h0, h1, h2, h3, h4, h5, h6, h7, h8⟩ := h
 refine all_oneCell_toArray (cs := [g0, g1, g2, g3, g4, g5, g6, g7, g8, .slice a n c, .int .u64 m, .bool b]) ?_
 intro v hv
 simp only [List.mem_cons, List.not_mem_nil, or_false] at hv
 rcases hv with rfl | rfl | rfl | rfl | rfl | rfl | rfl | rfl | rfl | rfl | rfl | rfl <;> first | assumption | rfl
theorem S6.apl_take (l : List S6.Pr) (n : Nat) (ws : List S6.Wr) (i : Nat) (h : i < ws.length) : S6.apl l n (ws.take (i + 1)) = S6.stepW n (S6.apl l n (ws.take i)) ws[i] := by
 rw [List.take_succ_eq_append_getElem h, S6.apl_snoc]
theorem refApply (w : World) (g : G9) (pv : Value) (num n : Nat) (cl : Bool) (l : List S6.Pr) (yv : Value) (ws : List S6.Wr) (hP : RPs w pv l) (hpX : ∀ k, pv.ownBlock = some k -> k < w.heap.size) (hl : l.length <= 400000) (hs : S6.Srt l) (hy : RWs w yv ws) (hwl : ws.length <= 100000)
 (hg : g.g0.oneCell' = true /\ g.g1.oneCell' = true /\ g.g2.oneCell' = true /\ g.g3.oneCell' = true /\ g.g4.oneCell' = true /\ g.g5.oneCell' = true /\ g.g6.oneCell' = true /\ g.g7.oneCell' = true /\ g.g8.oneCell' = true) :
 Calls Tryz.prog 32 #[s6v g pv num cl, .int .u64 (n : Int), yv] w fun e w' => ∃ pv', e = .returned (s6v g pv' (max num n) cl) /\ RPs w' pv' (S6.apl l n ws) /\ (∀ k, pv'.ownBlock = some k -> (pv.ownBlock = some k ∨ w.heap.size <= k) /\ k < w'.heap.size) /\ Ext w w' := by
 obtain ⟨_, pa0, pc0, rfl, _⟩ := hP.shape
 obtain ⟨_, ya, yc, rfl, hyc⟩ := hy.shape
 have HYC := qh hyc
 have hwli : (ws.length : Int) <= 100000 := by omega
 obtain ⟨g0, g1, g2, g3, g4, g5, g6, g7, g8⟩ := g
 simp only at hg
 have HSR := qh hs
 have hx1 := (Ext.of_alloc w (.cells #[g0, g1, g2, g3, g4, g5, g6, g7, g8, .slice pa0 l.length pc0, .int .u64 (num : Int), .bool cl] 41)).alloc (.cells #[.int .i64 0, .slice none 0 0, .slice none 0 0, .bool false, .bool false, .int .i64 0, .int .u32 0, .slice none 0 0, .bool false, .slice none 0 0, .int .u64 0, .bool false] 41)
 have hb1 := heap_alloc_new w (.cells #[g0, g1, g2, g3, g4, g5, g6, g7, g8, .slice pa0 l.length pc0, .int .u64 (num : Int), .bool cl] 41)
 have hz1 := heap_alloc_new (w.alloc (.cells #[g0, g1, g2, g3, g4, g5, g6, g7, g8, .slice pa0 l.length pc0, .int .u64 (num : Int), .bool cl] 41)) (.cells #[.int .i64 0, .slice none 0 0, .slice none 0 0, .bool false, .bool false, .int .i64 0, .int .u32 0, .slice none 0 0, .bool false, .slice none 0 0, .int .u64 0, .bool false] 41)
 have hs0 : (w.alloc (.cells #[g0, g1, g2, g3, g4, g5, g6, g7, g8, .slice pa0 l.length pc0, .int .u64 (num : Int), .bool cl] 41)).heap.size = w.heap.size + 1 := World.size_alloc _ _
 have hs1 : ((w.alloc (.cells #[g0, g1, g2, g3, g4, g5, g6, g7, g8, .slice pa0 l.length pc0, .int .u64 (num : Int), .bool cl] 41)).alloc (.cells #[.int .i64 0, .slice none 0 0, .slice none 0 0, .bool false, .bool false, .int .i64 0, .int .u32 0, .slice none 0 0, .bool false, .slice none 0 0, .int .u64 0, .bool false] 41)).heap.size = (w.alloc (.cells #[g0, g1, g2, g3, g4, g5, g6, g7, g8, .slice pa0 l.length pc0, .int .u64 (num : Int), .bool cl] 41)).heap.size + 1 := World.size_alloc _ _
 rw [hs0] at hz1 hs1
 have hb2 := (Below.block (B := (w.alloc (.cells #[g0, g1, g2, g3, g4, g5, g6, g7, g8, .slice pa0 l.length pc0, .int .u64 (num : Int), .bool cl] 41)).heap.size) (Ext.of_alloc (w.alloc (.cells #[g0, g1, g2, g3, g4, g5, g6, g7, g8, .slice pa0 l.length pc0, .int .u64 (num : Int), .bool cl] 41)) (.cells #[.int .i64 0, .slice none 0 0, .slice none 0 0, .bool false, .bool false, .int .i64 0, .int .u32 0, .slice none 0 0, .bool false, .slice none 0 0, .int .u64 0, .bool false] 41)) w.heap.size (by omega)).trans hb1
 obtain ⟨W1, hW1⟩ : ∃ W1, W1 = (w.alloc (.cells #[g0, g1, g2, g3, g4, g5, g6, g7, g8, .slice pa0 l.length pc0, .int .u64 (num : Int), .bool cl] 41)).alloc (.cells #[.int .i64 0, .slice none 0 0, .slice none 0 0, .bool false, .bool false, .int .i64 0, .int .u32 0, .slice none 0 0, .bool false, .slice none 0 0, .int .u64 0, .bool false] 41) := ⟨_, rfl⟩
 rw [<- hW1] at hx1 hb2 hz1 hs1
 have HX1 := qh hx1
 have HW1 := qh hW1
 have HB1 := qh hb2
 have HZ1 := qh hz1
 have HP1 := qh (hP.ext hx1)
 have HPX := qh hpX
 have HS1 := qh hs1
 clear hyc hs hW1 hx1 hb1 hz1 hb2 hs0 hs1 hP hpX hy
 unfold s6v
 go_enter Tryz.func32, Tryz.ntmps32
 go_upto_region 1 with fail
 rw [show (w.alloc (.cells #[g0, g1, g2, g3, g4, g5, g6, g7, g8, .slice pa0 l.length pc0, .int .u64 (num : Int), .bool cl] 41)).alloc (.cells #[.int .i64 0, .slice none 0 0, .slice none 0 0, .bool false, .bool false, .int .i64 0, .int .u32 0, .slice none 0 0, .bool false, .slice none 0 0, .int .u64 0, .bool false] 41) = W1 from HW1.out.symm]
 clear HW1
 go_wp2_with fail
 go_loopw [7] (fun iv wr => ∃ (i : Nat) (pa : Option Addr) (pc : Nat), i <= ws.length /\ iv = .int .i64 (i : Int) /\ (S6.apl l n (ws.take i)).length <= l.length + i /\ Hid (S6.Srt (S6.apl l n (ws.take i))) /\ Hid (Mod (fun k => k = w.heap.size) W1 wr) /\ Hid (wr.heap[w.heap.size]? = some (.cells #[g0, g1, g2, g3, g4, g5, g6, g7, g8, .slice pa (S6.apl l n (ws.take i)).length pc, .int .u64 (num : Int), .bool cl] 41 (0, 0))) /\ Hid (RPs wr (.slice pa (S6.apl l n (ws.take i)).length pc) (S6.apl l n (ws.take i))) /\ Hid (∀ k, (Value.slice pa (S6.apl l n (ws.take i)).length pc).ownBlock = some k -> (k ≠ w.heap.size /\ k ≠ w.heap.size + 1 /\ k < wr.heap.size) /\ ((Value.slice pa0 l.length pc0).ownBlock = some k ∨ w.heap.size <= k))) (fun iv _ => ws.length - (intOf iv).toNat)
 case atStart => exact ⟨0, pa0, pc0, Nat.zero_le _, rfl, Nat.le_refl _, HSR.out, Mod.refl _ _, HB1, HP1, (show ∀ k, (Value.slice pa0 l.length pc0).ownBlock = some k -> _ from fun k hk => ⟨by have := HPX.out k hk; have := HS1.out; omega, .inl hk⟩)⟩
 case round =>
  obtain ⟨i, pa, pc, hi, rfl, hlen, HSI, HM, HBK, HR, HO⟩ := hrel
  have hM := HM.out.size
  by_cases hlt : i < ws.length
  ·have hlti : (i : Int) < (ws.length : Int) := by omega
   obtain ⟨yb, yo, rfl, y0, y1, y2, -⟩ := HYC.out i hlt
   have hyb : yb < w.heap.size := World.block_lt_of_cell? w _ y0
   replace y0 := HM.out.cell (HX1.out.cell y0) (fun e : yb = w.heap.size => by omega)
   replace y1 := HM.out.cell (HX1.out.cell y1) (fun e : yb = w.heap.size => by omega)
   replace y2 := HM.out.cell (HX1.out.cell y2) (fun e : yb = w.heap.size => by omega)
   unfold strV at y0 y1
   have hat := S6.apl_take l n ws i hlt
   rw [<- S6.laidF_step] at hat
   have hsl := S6.stepW_len n (S6.apl l n (ws.take i)) ws[i]
   rw [<- S6.laidF_step] at hsl
   have hsr := S6.stepW_srt HSI.out n ws[i]
   rw [<- S6.laidF_step] at hsr
   generalize ws[i] = y at *
   have HAT := qh hat
   clear hat
   generalize S6.apl l n (ws.take i) = li at *
   have HLD := qh (fun W (hW : Ext wr W) => refLaid W _ li ⟨y.key, y.val, n⟩ (!y.drop) (HR.out.ext hW) (by omega) HSI.out)
   have q9 := (blk_cell HBK.out 9).trans rfl
   generalize y.drop = dr at *
   have HSL := qh hsl
   have HSRT := qh hsr
   have hsz := HS1.out
   clear hsl hsr HR HSI hyb
   go_upto_region 4 with fail
   have hHeld := Ext.of_drew wr
   refine wp_region_C (fun w' => Ext wr w') 22 (by kernel_rfl) ?_
   (refine aC [22] (i := 0) (oi := ⟨some 14, _, _, _, _, _⟩) (v := ?_) rfl ?_ hHeld ?_; rotate_left; (focus (intro w hSw; (skip); go_simp; first | done | with_reducible rfl)); try simp only [Act.put, zB, zC, zD])
   (refine aC [22] (i := 1) (oi := ⟨some 15, _, _, _, _, _⟩) (v := ?_) rfl ?_ hHeld ?_; rotate_left; (focus (intro w hSw; ((have q := hSw.cell q9)); go_simp; first | done | with_reducible rfl)); try simp only [Act.put, zB, zC, zD])
   (refine aC [22] (i := 2) (oi := ⟨some 16, _, _, _, _, _⟩) (v := ?_) rfl ?_ hHeld ?_; rotate_left; (focus (intro w hSw; (skip); go_simp; first | done | with_reducible rfl)); try simp only [Act.put, zB, zC, zD])
   (refine aC [22] (i := 3) (oi := ⟨some 17, _, _, _, _, _⟩) (v := ?_) rfl ?_ hHeld ?_; rotate_left; (focus (intro w hSw; (skip); go_simp; first | done | with_reducible rfl)); try simp only [Act.put, zB, zC, zD])
   (refine aC [22] (i := 4) (oi := ⟨some 18, _, _, _, _, _⟩) (v := ?_) rfl ?_ hHeld ?_; rotate_left; (focus (intro w hSw; (skip); go_simp; first | done | with_reducible rfl)); try simp only [Act.put, zB, zC, zD])
   (refine aC [22] (i := 5) (oi := ⟨some 19, _, _, _, _, _⟩) (v := ?_) rfl ?_ hHeld ?_; rotate_left; (focus (intro w hSw; (skip); go_simp; first | done | with_reducible rfl)); try simp only [Act.put, zB, zC, zD])
   (refine aC [22] (i := 6) (oi := ⟨some 20, _, _, _, _, _⟩) (v := ?_) rfl ?_ hHeld ?_; rotate_left; (focus (intro w hSw; ((have q := hSw.cell y0)); go_simp; first | done | with_reducible rfl)); try simp only [Act.put, zB, zC, zD])
   (refine aC [22] (i := 7) (oi := ⟨some 21, _, _, _, _, _⟩) (v := ?_) rfl ?_ hHeld ?_; rotate_left; (focus (intro w hSw; (skip); go_simp; first | done | with_reducible rfl)); try simp only [Act.put, zB, zC, zD])
   (refine aC [22] (i := 8) (oi := ⟨some 22, _, _, _, _, _⟩) (v := ?_) rfl ?_ hHeld ?_; rotate_left; (focus (intro w hSw; (skip); go_simp; first | done | with_reducible rfl)); try simp only [Act.put, zB, zC, zD])
   (refine aC [22] (i := 9) (oi := ⟨some 23, _, _, _, _, _⟩) (v := ?_) rfl ?_ hHeld ?_; rotate_left; (focus (intro w hSw; (skip); go_simp; first | done | with_reducible rfl)); try simp only [Act.put, zB, zC, zD])
   (refine aC [22] (i := 10) (oi := ⟨some 24, _, _, _, _, _⟩) (v := ?_) rfl ?_ hHeld ?_; rotate_left; (focus (intro w hSw; (skip); go_simp; first | done | with_reducible rfl)); try simp only [Act.put, zB, zC, zD])
   (refine aC [22] (i := 11) (oi := ⟨some 25, _, _, _, _, _⟩) (v := ?_) rfl ?_ hHeld ?_; rotate_left; (focus (intro w hSw; ((have q := hSw.cell y1)); go_simp; first | done | with_reducible rfl)); try simp only [Act.put, zB, zC, zD])
   (refine aC [22] (i := 12) (oi := ⟨some 26, _, _, _, _, _⟩) (v := ?_) rfl ?_ hHeld ?_; rotate_left; (focus (intro w hSw; (skip); go_simp; first | done | with_reducible rfl)); try simp only [Act.put, zB, zC, zD])
   (refine aC [22] (i := 13) (oi := ⟨some 27, _, _, _, _, _⟩) (v := ?_) rfl ?_ hHeld ?_; rotate_left; (focus (intro w hSw; (skip); go_simp; first | done | with_reducible rfl)); try simp only [Act.put, zB, zC, zD])
   (refine aC [22] (i := 14) (oi := ⟨some 28, _, _, _, _, _⟩) (v := ?_) rfl ?_ hHeld ?_; rotate_left; (focus (intro w hSw; (skip); go_simp; first | done | with_reducible rfl)); try simp only [Act.put, zB, zC, zD])
   (refine aC [22] (i := 15) (oi := ⟨some 29, _, _, _, _, _⟩) (v := ?_) rfl ?_ hHeld ?_; rotate_left; (focus (intro w hSw; (skip); go_simp; first | done | with_reducible rfl)); try simp only [Act.put, zB, zC, zD])
   (refine aC [22] (i := 16) (oi := ⟨some 30, _, _, _, _, _⟩) (v := ?_) rfl ?_ hHeld ?_; rotate_left; (focus (intro w hSw; (skip); go_simp; first | done | with_reducible rfl)); try simp only [Act.put, zB, zC, zD])
   (refine aC [22] (i := 17) (oi := ⟨some 31, _, _, _, _, _⟩) (v := ?_) rfl ?_ hHeld ?_; rotate_left; (focus (intro w hSw; (skip); go_simp; first | done | with_reducible rfl)); try simp only [Act.put, zB, zC, zD])
   (refine aC [22] (i := 18) (oi := ⟨some 32, _, _, _, _, _⟩) (v := ?_) rfl ?_ hHeld ?_; rotate_left; (focus (intro w hSw; ((have q := hSw.cell y2)); go_simp; first | done | with_reducible rfl)); try simp only [Act.put, zB, zC, zD])
   (refine aC [22] (i := 19) (oi := ⟨some 33, _, _, _, _, _⟩) (v := ?_) rfl ?_ hHeld ?_; rotate_left; (focus (intro w hSw; (skip); go_simp; first | done | with_reducible rfl)); try simp only [Act.put, zB, zC, zD])
   refine wpAnyC_one (i := 20) (oi := ⟨some 34, _, _, _, _, _⟩) rfl (by kernel_rfl) (by decide) (fun K hK => ?_)
   rw [if_pos (by rfl)]
   go_simp
   refine (HLD.out _ hHeld).mono ?_
   rintro e w5 ⟨v5, rfl, hown5, hx5⟩
   obtain ⟨a5, c5, rfl⟩ := own_any hown5
   have hHeld2 := hHeld.trans hx5
   have hdr := hHeld.size
   refine hK.out _ _ hHeld2 ?_
   clear hHeld
   have hHeld := hHeld2
   clear hHeld2
   clear hK K
   try simp only [Act.put, zB, zC, zD]
   (refine aC [22] (i := 21) (oi := ⟨some 35, _, _, _, _, _⟩) (v := ?_) rfl ?_ hHeld ?_; rotate_left; (focus (intro w hSw; (skip); go_simp; first | done | with_reducible rfl)); try simp only [Act.put, zB, zC, zD])
   have hb5 := (Below.block (B := wr.heap.size) hHeld w.heap.size (blk_lt HBK.out)).trans HBK.out
   have q9b := (blk_cell hb5 9).trans rfl
   have q9f := blk_free hb5 9
   refine wpAnyC_c (oi := ⟨none, _, _, _, _, _⟩) rfl (by kernel_rfl) (fun K hK => ?_)
   rw [if_pos (by rfl)]
   go_simp
   refine hK.out _ _ ?_
   clear hK K
   try simp only [Act.put, zB, zC, zD]
   refine wpAny_done (by kernel_rfl) ?_ _
   have hb6 := blk_set hb5 9 (.slice a5 (S6.laidF li ⟨y.key, y.val, n⟩ (!dr)).length c5)
   have HB6 : Hid ((w5.setCell ⟨w.heap.size, 9, none⟩ (.slice a5 (S6.laidF li ⟨y.key, y.val, n⟩ (!dr)).length c5)).heap[w.heap.size]? = some (.cells #[g0, g1, g2, g3, g4, g5, g6, g7, g8, .slice a5 (S6.laidF li ⟨y.key, y.val, n⟩ (!dr)).length c5, .int .u64 (num : Int), .bool cl] 41 (0, 0))) := hb6
   have hms := Mod.setCell (F := fun k => k = w.heap.size) w5 ⟨w.heap.size, 9, none⟩ (.slice a5 (S6.laidF li ⟨y.key, y.val, n⟩ (!dr)).length c5) rfl
   have HM6 := qh (Mod.trans (Mod.trans HM.out (Mod.of_ext hHeld) (fun _ _ h => h)) hms (fun _ _ h => h))
   have hob : ∀ k, (Value.slice a5 (S6.laidF li ⟨y.key, y.val, n⟩ (!dr)).length c5).ownBlock = some k -> k ≠ w.heap.size /\ k ≠ w.heap.size + 1 /\ k < w5.heap.size := fun k hk => by have := hown5.lt k hk; omega
   have HR6 := qh ((RPs.of_own hown5).mod hms (fun k hk => (hob k hk).1))
   have HO6 : Hid (∀ k, (Value.slice a5 (S6.laidF li ⟨y.key, y.val, n⟩ (!dr)).length c5).ownBlock = some k -> (k ≠ w.heap.size /\ k ≠ w.heap.size + 1 /\ k < (w5.setCell ⟨w.heap.size, 9, none⟩ (.slice a5 (S6.laidF li ⟨y.key, y.val, n⟩ (!dr)).length c5)).heap.size) /\ ((Value.slice pa0 l.length pc0).ownBlock = some k ∨ w.heap.size <= k)) := fun k hk => ⟨⟨(hob k hk).1, (hob k hk).2.1, Nat.lt_of_lt_of_le (hob k hk).2.2 hms.size⟩, .inr (by have := (hown5.lt k hk).1; omega)⟩
   clear hb6 hms hob hown5 hx5 hHeld hb5 q9 q9b q9f y0 y1 y2 hdr HLD
   go_wp2_with fail
   refine ⟨⟨i + 1, a5, c5, by omega, by go_num, ?_, ?_, HM6, ?_, ?_, ?_⟩, by simp [intOf]; omega⟩
   all_goals rw [HAT.out]
   ·have := HSL.out; omega
   ·exact HSRT
   ·exact HB6
   ·exact HR6
   ·exact HO6
  ·obtain rfl : i = ws.length := by omega
   have hge : ¬ ((ws.length : Nat) : Int) < (ws.length : Int) := by omega
   rw [List.take_length] at *
   obtain ⟨q0, q1, q2, q3, q4, q5, q6, q7, q8, q9, q10, q11⟩ := box12 HBK.out
   have q10f := blk_free HBK.out 10
   have hZ : ∀ {W}, Mod (fun k => k = w.heap.size) W1 W -> W.heap[w.heap.size + 1]? = some (.cells #[.int .i64 0, .slice none 0 0, .slice none 0 0, .bool false, .bool false, .int .i64 0, .int .u32 0, .slice none 0 0, .bool false, .slice none 0 0, .int .u64 0, .bool false] 41 (0, 0)) := fun hm => blk_mod HZ1.out hm (by omega)
   have HONE := qh hg
   clear hg hlt
   by_cases hnn : num < n
   ·have hd : decide ((num : Int) < (n : Int)) = true := decide_eq_true (by omega)
    have HNN := qh (Nat.max_eq_right (Nat.le_of_lt hnn))
    obtain ⟨W9, hW9⟩ : ∃ W9, W9 = wr.setCell ⟨w.heap.size, 10, none⟩ (.int .u64 (n : Int)) := ⟨_, rfl⟩
    have hb9 := blk_set HBK.out 10 (.int .u64 (n : Int))
    have hms := Mod.setCell (F := fun k => k = w.heap.size) wr ⟨w.heap.size, 10, none⟩ (.int .u64 (n : Int)) rfl
    rw [<- hW9] at hb9 hms
    have HB9 : Hid (W9.heap[w.heap.size]? = some (.cells #[g0, g1, g2, g3, g4, g5, g6, g7, g8, .slice pa (S6.apl l n ws).length pc, .int .u64 (n : Int), .bool cl] 41 (0, 0))) := hb9
    have HM9 := qh (Mod.trans HM.out hms (fun _ _ h => h))
    have hR9 := HR.out.mod hms (fun k hk => (HO.out k hk).1.1)
    have hpl := fun k hk => let ⟨⟨a, b, c⟩, d⟩ := HO.out k hk; (⟨⟨a, b, Nat.lt_of_lt_of_le c hms.size⟩, d⟩ : (k ≠ w.heap.size /\ k ≠ w.heap.size + 1 /\ k < W9.heap.size) /\ ((Value.slice pa0 l.length pc0).ownBlock = some k ∨ w.heap.size <= k))
    have HW9 := qh hW9
    clear hb9 hms HR HO HBK HM hW9
    go_upto_region 7 with fail
    rw [show wr.setCell ⟨w.heap.size, 10, none⟩ (.int .u64 (n : Int)) = W9 from HW9.out.symm]
    clear HW9 q0 q1 q2 q3 q4 q5 q6 q7 q8 q9 q10 q11 q10f
    have HTH := qh (there_blk (cs := [.int .i64 0, .slice none 0 0, .slice none 0 0, .bool false, .bool false, .int .i64 0, .int .u32 0, .slice none 0 0, .bool false, .slice none 0 0, .int .u64 0, .bool false]) (hZ HM9.out) 0 12 (by simp))
    obtain ⟨q0, q1, q2, q3, q4, q5, q6, q7, q8, q9, q10, q11⟩ := box12 HB9.out
    have HMS := qh (mod_setCells (fun z => z = w.heap.size + 1) W9 (w.heap.size + 1) 0 [g0, g1, g2, g3, g4, g5, g6, g7, g8, .slice pa (S6.apl l n ws).length pc, .int .u64 (n : Int), .bool cl] rfl)
    have HBS := qh (blk_setCells (w.heap.size + 1) 41 [g0, g1, g2, g3, g4, g5, g6, g7, g8, .slice pa (S6.apl l n ws).length pc, .int .u64 (n : Int), .bool cl] 0 W9 [.int .i64 0, .slice none 0 0, .slice none 0 0, .bool false, .bool false, .int .i64 0, .int .u32 0, .slice none 0 0, .bool false, .slice none 0 0, .int .u64 0, .bool false] (hZ HM9.out) (by simp))
    have HR9 := qh hR9
    have HPL := qh hpl
    clear hR9 hpl hZ
    go_wp2_with (first
     | ((with_reducible show wpList _ _ _ (⟨none, Op.store _ _ _, _, _, _, _⟩ :: _) _ _); refine wpList_store_mid rfl 41 _ _ rfl (w.heap.size + 1) 0 #[g0, g1, g2, g3, g4, g5, g6, g7, g8, .slice pa (S6.apl l n ws).length pc, .int .u64 (n : Int), .bool cl] (by rfl) (by rfl) HTH.out (by kernel_rfl) (one12 HONE.out _ _ _ _ _) ?_)
     | fail)
    have hz4 : (W9.setCells (w.heap.size + 1) 0 [g0, g1, g2, g3, g4, g5, g6, g7, g8, .slice pa (S6.apl l n ws).length pc, .int .u64 (n : Int), .bool cl]).heap[w.heap.size + 1]? = some (.cells #[g0, g1, g2, g3, g4, g5, g6, g7, g8, .slice pa (S6.apl l n ws).length pc, .int .u64 (n : Int), .bool cl] 41 (0, 0)) := by rw [HBS.out]; simp
    refine bodyPost_ret_by (results_cell_row (p := 6) (ty := 41) rfl _ _ (w.heap.size + 1) 41 #[g0, g1, g2, g3, g4, g5, g6, g7, g8, .slice pa (S6.apl l n ws).length pc, .int .u64 (n : Int), .bool cl] _ _ (by rfl) hz4 Tryz.underlying41 rfl (by kernel_rfl)) rfl ?_
    have hsz := HMS.out.size
    refine ⟨.slice pa (S6.apl l n ws).length pc, (by rw [HNN.out]), HR9.out.mod HMS.out (fun k hk e => (HPL.out k hk).1.2.1 e), fun k hk => ⟨(HPL.out k hk).2, Nat.lt_of_lt_of_le (HPL.out k hk).1.2.2 hsz⟩, ?_⟩
    have hm := Mod.trans (F := fun z => z = w.heap.size ∨ z = w.heap.size + 1) (HM9.out.mono (fun _ h => .inl h)) HMS.out (fun _ _ h => .inr h)
    exact Mod.ext (HX1.out) hm (fun z hz => by omega)
   ·have hd : decide ((num : Int) < (n : Int)) = false := decide_eq_false (by omega)
    have HNN := qh (Nat.max_eq_left (show n <= num by omega))
    have HB9 := HBK
    have HM9 := HM
    have hR9 := HR.out
    have hpl := HO.out
    clear HR HO HBK HM
    go_upto_region 7 with fail
    generalize wr = W9 at *
    clear q0 q1 q2 q3 q4 q5 q6 q7 q8 q9 q10 q11 q10f
    have HTH := qh (there_blk (cs := [.int .i64 0, .slice none 0 0, .slice none 0 0, .bool false, .bool false, .int .i64 0, .int .u32 0, .slice none 0 0, .bool false, .slice none 0 0, .int .u64 0, .bool false]) (hZ HM9.out) 0 12 (by simp))
    obtain ⟨q0, q1, q2, q3, q4, q5, q6, q7, q8, q9, q10, q11⟩ := box12 HB9.out
    have HMS := qh (mod_setCells (fun z => z = w.heap.size + 1) W9 (w.heap.size + 1) 0 [g0, g1, g2, g3, g4, g5, g6, g7, g8, .slice pa (S6.apl l n ws).length pc, .int .u64 (num : Int), .bool cl] rfl)
    have HBS := qh (blk_setCells (w.heap.size + 1) 41 [g0, g1, g2, g3, g4, g5, g6, g7, g8, .slice pa (S6.apl l n ws).length pc, .int .u64 (num : Int), .bool cl] 0 W9 [.int .i64 0, .slice none 0 0, .slice none 0 0, .bool false, .bool false, .int .i64 0, .int .u32 0, .slice none 0 0, .bool false, .slice none 0 0, .int .u64 0, .bool false] (hZ HM9.out) (by simp))
    have HR9 := qh hR9
    have HPL := qh hpl
    clear hR9 hpl hZ
    go_wp2_with (first
     | ((with_reducible show wpList _ _ _ (⟨none, Op.store _ _ _, _, _, _, _⟩ :: _) _ _); refine wpList_store_mid rfl 41 _ _ rfl (w.heap.size + 1) 0 #[g0, g1, g2, g3, g4, g5, g6, g7, g8, .slice pa (S6.apl l n ws).length pc, .int .u64 (num : Int), .bool cl] (by rfl) (by rfl) HTH.out (by kernel_rfl) (one12 HONE.out _ _ _ _ _) ?_)
     | fail)
    have hz4 : (W9.setCells (w.heap.size + 1) 0 [g0, g1, g2, g3, g4, g5, g6, g7, g8, .slice pa (S6.apl l n ws).length pc, .int .u64 (num : Int), .bool cl]).heap[w.heap.size + 1]? = some (.cells #[g0, g1, g2, g3, g4, g5, g6, g7, g8, .slice pa (S6.apl l n ws).length pc, .int .u64 (num : Int), .bool cl] 41 (0, 0)) := by rw [HBS.out]; simp
    refine bodyPost_ret_by (results_cell_row (p := 6) (ty := 41) rfl _ _ (w.heap.size + 1) 41 #[g0, g1, g2, g3, g4, g5, g6, g7, g8, .slice pa (S6.apl l n ws).length pc, .int .u64 (num : Int), .bool cl] _ _ (by rfl) hz4 Tryz.underlying41 rfl (by kernel_rfl)) rfl ?_
    have hsz := HMS.out.size
    refine ⟨.slice pa (S6.apl l n ws).length pc, (by rw [HNN.out]), HR9.out.mod HMS.out (fun k hk e => (HPL.out k hk).1.2.1 e), fun k hk => ⟨(HPL.out k hk).2, Nat.lt_of_lt_of_le (HPL.out k hk).1.2.2 hsz⟩, ?_⟩
    have hm := Mod.trans (F := fun z => z = w.heap.size ∨ z = w.heap.size + 1) (HM9.out.mono (fun _ h => .inl h)) HMS.out (fun _ _ h => .inr h)
    exact Mod.ext (HX1.out) hm (fun z hz => by omega)
end Go.Proofs.YtnjfioikpajhlaaGreat
namespace Go.Proofs.YtnjfioikpajhlaaGreat
open Go.RowKit Go.Shelf
theorem el_str : Elem 35 9 1 16 := elem_of Tryz.underlying35 (by decide) (by decide) (by kernel_rfl)
theorem RWs.nil (w : World) : RWs w (.slice none 0 0) [] := ⟨none, 0, rfl, rfl, Nat.le_refl _, by unfold maxLen; omega, fun _ => rfl, (fun u hu => by cases hu), .inl rfl⟩
namespace S6
def FitR (x : Wr) : Prop := x.key.length <= 140737488355328 /\ x.val.length <= 140737488355328
theorem wrB_lenR (x : Wr) (h : FitR x) : (wrB x).length <= x.key.length + x.val.length + 21 := by
 have h1 := (W.vb_len10 x.key.length (by have := h.1; omega)).1
 have h2 := (W.vb_len10 x.val.length (by have := h.2; omega)).1
 unfold wrB
 cases x.drop <;> simp <;> omega
def lets (ws : List Wr) : Nat := (ws.map (fun x => x.key.length + x.val.length)).sum
theorem lets_le : ∀ (ws : List Wr) (k : Nat), lets (ws.take k) <= lets ws
 | [], k => by simp [lets]
 | x :: ws, 0 => by simp [lets]
 | x :: ws, k + 1 => by
  have := lets_le ws k
  unfold lets at this ⊢
  simp only [List.take_succ_cons, List.map_cons, List.sum_cons]
  omega
theorem wrsB_lenR : ∀ (ws : List Wr), (∀ x ∈ ws, FitR x) -> (wrsB ws).length <= lets ws + ws.length * 21
 | [], _ => by simp [wrsB]
 | x :: ws, h => by
  have h1 := wrsB_lenR ws (fun y hy => h y (List.mem_cons_of_mem _ hy))
  have h2 := wrB_lenR x (h x List.mem_cons_self)
  rw [wrsB_cons, List.length_append]
  unfold lets at h1 ⊢
  simp only [List.map_cons, List.sum_cons, List.length_cons]
  omega
theorem batchTo_lenR (n : Nat) (ws : List Wr) (k : Nat) (hn : n < 18446744073709551616) (hl : ws.length <= 10000) (h : ∀ x ∈ ws, FitR x) : (batchTo n ws k).length <= 20 + lets ws + ws.length * 21 := by
 have h1 := (W.vb_len10 n hn).1
 have h2 := (W.vb_len10 ws.length (by omega)).1
 have h3 := wrsB_lenR (ws.take k) (fun x hx => h x (List.mem_of_mem_take hx))
 have h4 := lets_le ws k
 have h5 : (ws.take k).length <= ws.length := by rw [List.length_take]; omega
 unfold batchTo
 simp only [List.length_append]
 omega
theorem lets_bound : ∀ (ws : List Wr), (∀ x ∈ ws, FitR x) -> lets ws <= ws.length * 281474976710656
 | [], _ => by simp [lets]
 | x :: ws, h => by
  have h1 := lets_bound ws (fun y hy => h y (List.mem_cons_of_mem _ hy))
  have h2 := h x List.mem_cons_self
  unfold FitR at h2
  unfold lets at h1 ⊢
  simp only [List.map_cons, List.sum_cons, List.length_cons]
  omega
end S6
theorem refBatch (w : World) (n : Nat) (yv : Value) (ws : List S6.Wr) (hy : RWs w yv ws) (hn : n < 18446744073709551616) (hwl : ws.length <= 10000) (hf : ∀ x ∈ ws, S6.FitR x) :
 Calls Tryz.prog 36 #[.int .u64 (n : Int), yv] w fun e w' => e = .returned (.string ⟨(S6.batchB n ws).toArray⟩) /\ Ext w w' := by
 obtain ⟨_, ya, yc, rfl, hyc⟩ := hy.shape
 have HYC := qh hyc
 have hwli : (ws.length : Int) <= 10000 := by omega
 have HF := qh hf
 have HV1 := qh (fun U => refVar [] n U hn (by simp))
 have HV2 := qh (fun U => refVar ([] ++ W.vb n) ws.length U (by omega) (by have := (W.vb_len10 n hn).1; simp; omega))
 have hcv : IntKind.u64.wrap (ws.length : Int) = (ws.length : Int) := by rw [IntKind.wrap_u64]; omega
 clear hy hyc hf
 go_enter Tryz.func36, Tryz.ntmps36
 go_wp2_with fail
 refine (HV1.out _).mono ?_
 rintro e w1 ⟨rfl, hx1⟩
 have HX1 := qh hx1
 clear hx1 HV1
 go_wp2_with fail
 refine (HV2.out _).mono ?_
 rintro e w2 ⟨rfl, hx2⟩
 have HX2 := qh (HX1.out.trans hx2)
 have hb0 := S6.batchTo_zero n ws
 rw [List.nil_append, <- hb0]
 clear hx2 HV2 hb0 hcv HX1
 go_wp2_with fail
 go_loopw [5, 6] (fun sv iv wr => ∃ i : Nat, i <= ws.length /\ iv = .int .i64 (i : Int) /\ sv = .string ⟨(S6.batchTo n ws i).toArray⟩ /\ Hid (Ext w wr)) (fun _ iv _ => ws.length - (intOf iv).toNat)
 case atStart => exact ⟨0, Nat.zero_le _, rfl, rfl, HX2⟩
 case round =>
  obtain ⟨i, hi, rfl, rfl, hX⟩ := hrel
  by_cases hlt : i < ws.length
  ·have hlti : (i : Int) < (ws.length : Int) := by omega
   obtain ⟨yb, yo, rfl, y0, y1, y2, -⟩ := HYC.out i hlt
   replace y0 := hX.out.cell y0
   replace y1 := hX.out.cell y1
   replace y2 := hX.out.cell y2
   unfold strV at y0 y1
   obtain ⟨hk, hv⟩ := HF.out _ (List.getElem_mem hlt)
   have hsl := S6.batchTo_lenR n ws i hn hwl HF.out
   have hsl2 := S6.lets_bound ws HF.out
   have HSU := qh (S6.batchTo_succ n ws i hlt)
   generalize ws[i] = y at *
   generalize S6.batchTo n ws i = s at *
   have hk10 := (W.vb_len10 y.key.length (by omega)).1
   have hv10 := (W.vb_len10 y.val.length (by omega)).1
   have hv := fun U => refVar s y.key.length U (by omega) (by omega)
   have hck : IntKind.u64.wrap (y.key.length : Int) = (y.key.length : Int) := by rw [IntKind.wrap_u64]; omega
   have hcv : IntKind.u64.wrap (y.val.length : Int) = (y.val.length : Int) := by rw [IntKind.wrap_u64]; omega
   have hcs : (⟨y.key.toArray⟩ : ByteArray).size = y.key.length := by show y.key.toArray.size = _; rw [List.size_toArray]
   have hcs2 : (⟨y.val.toArray⟩ : ByteArray).size = y.val.length := by show y.val.toArray.size = _; rw [List.size_toArray]
   have hs1 : (⟨(s ++ W.vb y.key.length).toArray⟩ : ByteArray).size <= 4000000000000000000 := by show (s ++ W.vb y.key.length).toArray.size <= _; rw [List.size_toArray, List.length_append]; omega
   have hs2 : (⟨(s ++ W.vb y.key.length ++ y.key).toArray⟩ : ByteArray).size <= 4000000000000000000 := by show (s ++ W.vb y.key.length ++ y.key).toArray.size <= _; rw [List.size_toArray, List.length_append, List.length_append]; omega
   have hap := ba_append (s ++ W.vb y.key.length) y.key
   have hap0 := ba_push (s ++ W.vb y.key.length ++ y.key) 0
   have hap1 := ba_push (s ++ W.vb y.key.length ++ y.key) 1
   have hv3 := fun U => refVar (s ++ W.vb y.key.length ++ y.key ++ [1]) y.val.length U (by omega) (by simp; omega)
   have hs3 : (⟨((s ++ W.vb y.key.length ++ y.key ++ [1]) ++ W.vb y.val.length).toArray⟩ : ByteArray).size <= 4000000000000000000 := by show ((s ++ W.vb y.key.length ++ y.key ++ [1]) ++ W.vb y.val.length).toArray.size <= _; rw [List.size_toArray]; simp only [List.length_append, List.length_singleton]; omega
   have hap3 := ba_append ((s ++ W.vb y.key.length ++ y.key ++ [1]) ++ W.vb y.val.length) y.val
   have hwb : S6.wrB y = if y.drop = true then W.vb y.key.length ++ y.key ++ [0] else W.vb y.key.length ++ y.key ++ [1] ++ W.vb y.val.length ++ y.val := by unfold S6.wrB; cases y.drop <;> simp
   rw [hwb] at HSU
   rw [<- hap1] at hv3
   have hf0 : y.drop = true -> (⟨(s ++ W.vb y.key.length ++ y.key ++ [0]).toArray⟩ : ByteArray) = ⟨(S6.batchTo n ws (i + 1)).toArray⟩ := fun e => by rw [HSU.out, if_pos e]; simp
   have hf1 : y.drop = false -> (⟨((s ++ W.vb y.key.length ++ y.key ++ [1]) ++ W.vb y.val.length ++ y.val).toArray⟩ : ByteArray) = ⟨(S6.batchTo n ws (i + 1)).toArray⟩ := fun e => by rw [HSU.out, if_neg (by rw [e]; decide)]; simp
   rw [<- hap0, <- hap] at hf0
   rw [<- hap3] at hf1
   rw [<- hap] at hv3
   rw [<- hap] at hs2
   generalize (⟨((s ++ W.vb y.key.length ++ y.key ++ [1]) ++ W.vb y.val.length).toArray⟩ : ByteArray) = S3 at *
   generalize (⟨(s ++ W.vb y.key.length).toArray⟩ : ByteArray) = S1 at *
   generalize (⟨s.toArray⟩ : ByteArray) = S0 at *
   generalize (⟨y.key.toArray⟩ : ByteArray) = KB at *
   generalize (⟨y.val.toArray⟩ : ByteArray) = VB at *
   have HV := qh hv
   have HV3 := qh hv3
   have HF0 := qh hf0
   have HF1 := qh hf1
   have hcc1 : ¬ 9223372036854775807 < S1.size + y.key.length := by omega
   have hcc3 : ¬ 9223372036854775807 < S3.size + y.val.length := by omega
   have HCC2 : Hid (¬ 9223372036854775807 < (S1 ++ KB).size + 1) := (show ¬ 9223372036854775807 < (S1 ++ KB).size + 1 by omega)
   have hx0 := Ext.of_drew wr
   clear hv hv3 hf0 hf1 hap hap0 hap1 hap3 hwb HSU hsl hsl2 hs1 hs2 hs3 hk10 hv10
   go_upto_region 5 with fail
   go_region_held3 (fun v => v.cell? ⟨yb, yo + i * 4, none⟩ = some (.string KB)) (first
    | exact hx0.cell y0
    | exact hx3.cell (hx0.cell y0)) (first
    | (go_at_call 72; refine (HV.out _).mono ?_; rintro e w3 ⟨rfl, hx3⟩))
   have HX3 := qh (hX.out.trans (hx0.trans hx3))
   have z1 := (hx0.trans hx3).cell y1
   have z2 := (hx0.trans hx3).cell y2
   clear hX hx0 hx3 y0 y1 y2 HV hcc1 hcs
   generalize S1 ++ KB = S2 at *
   have hcc2 := HCC2.out
   cases hd : y.drop with
   | true =>
    rw [hd] at z2
    have hfin := HF0.out hd
    have HFIN := qh hfin
    clear hfin hd
    go_wp2_with fail
    exact ⟨⟨i + 1, by omega, by go_num, congrArg Value.string HFIN.out, HX3⟩, by simp [intOf]; omega⟩
   | false =>
    rw [hd] at z2
    have hfin := HF1.out hd
    have HFIN := qh hfin
    have hz0 := Ext.of_drew w3
    clear hfin hd
    go_wp2_with fail
    go_region_held3 (fun v => v.cell? ⟨yb, yo + i * 4 + 1, none⟩ = some (.string VB)) (first
     | exact hz0.cell z1
     | exact hx4.cell (hz0.cell z1)) (first
     | (go_at_call 72; refine (HV3.out _).mono ?_; rintro e w4 ⟨rfl, hx4⟩))
    have HX4 := qh (HX3.out.trans (hz0.trans hx4))
    clear hz0 hx4 z1 z2 HX3
    go_wp2_with fail
    exact ⟨⟨i + 1, by omega, by go_num, congrArg Value.string HFIN.out, HX4⟩, by simp [intOf]; omega⟩
  ·obtain rfl : i = ws.length := by omega
   have hge : ¬ ((ws.length : Nat) : Int) < (ws.length : Int) := by omega
   rw [S6.batchTo_all]
   go_wp2_with fail
   go_ret
   exact ⟨rfl, hX.out⟩
theorem strs_one {w3 : World} {base : Nat} (s : ByteArray) (hb : base <= w3.heap.size) : (w3.alloc (.cells #[.string s] 9)).ownsRow base 9 1 (.slice (some ⟨w3.heap.size, 0, none⟩) 1 1) 1 [.string s] :=
 ⟨by simp, .inr ⟨w3.heap.size, 1, #[.string s], rfl, hb, heap_alloc_new _ _, Nat.le_refl _, by unfold maxLen; simp, by simp, by simp⟩⟩
def strs (l : List (List UInt8)) : List Value := l.map strV
namespace S6
def imgL (l : List Pr) (m i : Nat) : List (List UInt8) := batchB m [] :: (l.take i).map prB
theorem imgL_succ (l : List Pr) (m i : Nat) (h : i < l.length) : imgL l m (i + 1) = imgL l m i ++ [prB l[i]] := by
 unfold imgL
 rw [List.take_succ_eq_append_getElem h, List.map_append]
 rfl
theorem imgL_all (l : List Pr) (m : Nat) : imgL l m l.length = image l m := by unfold imgL image; rw [List.take_length]
end S6
theorem refImage (w : World) (g : G9) (pv : Value) (num : Nat) (cl : Bool) (l : List S6.Pr) (hP : RPs w pv l) (hl : l.length <= 400000) (hn : num < 18446744073709551616) (hf : ∀ p ∈ l, p.key.length <= 1000000 /\ p.val.length <= 1000000 /\ p.ver < 18446744073709551616) :
 Calls Tryz.prog 39 #[s6v g pv num cl] w fun e w' => ∃ v', e = .returned v' /\ w'.ownsRow w.heap.size 9 1 v' (S6.image l num).length (strs (S6.image l num)) /\ Ext w w' := by
 obtain ⟨_, pa, pc, rfl, _, hcell⟩ := hP.shape
 have HC := qh hcell
 have HF := qh hf
 have hli : (l.length : Int) <= 400000 := by omega
 obtain ⟨g0, g1, g2, g3, g4, g5, g6, g7, g8⟩ := g
 have hx1 := Ext.of_alloc w (.cells #[g0, g1, g2, g3, g4, g5, g6, g7, g8, .slice pa l.length pc, .int .u64 (num : Int), .bool cl] 41)
 have hb1 := heap_alloc_new w (.cells #[g0, g1, g2, g3, g4, g5, g6, g7, g8, .slice pa l.length pc, .int .u64 (num : Int), .bool cl] 41)
 have hs1 : (w.alloc (.cells #[g0, g1, g2, g3, g4, g5, g6, g7, g8, .slice pa l.length pc, .int .u64 (num : Int), .bool cl] 41)).heap.size = w.heap.size + 1 := World.size_alloc _ _
 obtain ⟨W1, hW1⟩ : ∃ W1, W1 = w.alloc (.cells #[g0, g1, g2, g3, g4, g5, g6, g7, g8, .slice pa l.length pc, .int .u64 (num : Int), .bool cl] 41) := ⟨_, rfl⟩
 rw [<- hW1] at hx1 hb1 hs1
 have k9 : W1.cell? ⟨w.heap.size, 9, none⟩ = some (.slice pa l.length pc) := (blk_cell hb1 9).trans rfl
 have k10 : W1.cell? ⟨w.heap.size, 10, none⟩ = some (.int .u64 (num : Int)) := (blk_cell hb1 10).trans rfl
 have HW1 := qh hW1
 have HX1 := qh hx1
 have HB := qh (refBatch W1 num (.slice none 0 0) [] (RWs.nil W1) hn (by simp) (fun x hx => by cases hx))
 clear hcell hf hP hW1 hb1 hs1 hx1
 unfold s6v
 go_enter Tryz.func39, Tryz.ntmps39
 go_upto_region 1 with fail
 rw [show w.alloc (.cells #[g0, g1, g2, g3, g4, g5, g6, g7, g8, .slice pa l.length pc, .int .u64 (num : Int), .bool cl] 41) = W1 from HW1.out.symm]
 clear HW1
 go_wp2_with fail
 refine HB.out.mono ?_
 clear HB
 rintro e w2 ⟨rfl, hx2⟩
 have hown := strs_one (base := W1.heap.size) ⟨(S6.batchB num []).toArray⟩ hx2.size
 have HO3 : Hid ((w2.alloc (.cells #[.string ⟨(S6.batchB num []).toArray⟩] 9)).ownsRow W1.heap.size 9 1 (.slice (some ⟨w2.heap.size, 0, none⟩) 1 1) (0 + 1) (strs (S6.imgL l num 0))) := hown
 have HX3 := qh (hx2.trans (Ext.of_alloc w2 (.cells #[.string ⟨(S6.batchB num []).toArray⟩] 9)))
 clear hown hx2
 go_wp2_with fail
 go_loopw [3, 4] (fun ov iv wr => ∃ i : Nat, i <= l.length /\ iv = .int .i64 (i : Int) /\ Hid (wr.ownsRow W1.heap.size 9 1 ov (i + 1) (strs (S6.imgL l num i))) /\ Hid (Ext W1 wr)) (fun _ iv _ => l.length - (intOf iv).toNat)
 case atStart => exact ⟨0, Nat.zero_le _, rfl, HO3, HX3⟩
 case round =>
  clear HO3 HX3
  obtain ⟨i, hi, rfl, hO, hX⟩ := hrel
  have c9 := hX.out.cell k9
  by_cases hlt : i < l.length
  ·have hlti : (i : Int) < (l.length : Int) := by omega
   obtain ⟨b, off, rfl, d0, d1, d2⟩ := HC.out i hlt
   have hbw : b < w.heap.size := World.block_lt_of_cell? w _ d0
   replace d0 := (HX1.out.trans hX.out).cell d0
   replace d1 := (HX1.out.trans hX.out).cell d1
   replace d2 := (HX1.out.trans hX.out).cell d2
   unfold strV at d0 d1
   obtain ⟨h1, h2, h3⟩ := HF.out _ (List.getElem_mem hlt)
   have HSU := qh (S6.imgL_succ l num i hlt)
   generalize l[i] = p at *
   have hbt := fun U (hU : RWs U (.slice (some ⟨wr.drew.heap.size, 0, none⟩) 1 1) [⟨p.key, p.val, false, 0⟩]) => refBatch U p.ver _ [⟨p.key, p.val, false, 0⟩] hU h3 (by simp) (fun x hx => by rw [List.mem_singleton] at hx; subst hx; exact ⟨by simp only; omega, by simp only; omega⟩)
   have HBT := qh hbt
   have hou : ∀ k, u3.ownBlock = some k -> W1.heap.size <= k := fun k hk => (hO.out.lt k hk).1
   have hs1 := HX1.out.size
   have hwb : w.heap.size < W1.heap.size := World.block_lt_of_cell? W1 _ k9
   have hKP : ∀ w', Mod (fun k => u3.ownBlock = some k) wr w' -> (Mod (fun k => u3.ownBlock = some k) wr w' /\ w'.cell? ⟨w.heap.size, 9, none⟩ = some (.slice (some ⟨b, off, none⟩) l.length pc) /\ w'.cell? ⟨b, off + i * 3, none⟩ = some (.string ⟨p.key.toArray⟩) /\ w'.cell? ⟨b, off + i * 3 + 1, none⟩ = some (.string ⟨p.val.toArray⟩) /\ w'.cell? ⟨b, off + i * 3 + 2, none⟩ = some (.int .u64 (p.ver : Int))) := fun w' hw => ⟨hw, hw.cell c9 (fun e => by have := hou w.heap.size e; omega), hw.cell d0 (fun e => by have := hou b e; omega), hw.cell d1 (fun e => by have := hou b e; omega), hw.cell d2 (fun e => by have := hou b e; omega)⟩
   have hx0 := Ext.of_drew wr
   have hxa := hx0.trans (Ext.of_alloc wr.drew (.cells #[.string ⟨p.key.toArray⟩, .string ⟨p.val.toArray⟩, .bool false, .int .u64 0] 106))
   have hrow1 : RWs (wr.drew.alloc (.cells #[.string ⟨p.key.toArray⟩, .string ⟨p.val.toArray⟩, .bool false, .int .u64 0] 106)) (.slice (some ⟨wr.drew.heap.size, 0, none⟩) 1 1) [⟨p.key, p.val, false, 0⟩] := ReadsN.row 4 wr.drew [.string ⟨p.key.toArray⟩, .string ⟨p.val.toArray⟩, .bool false, .int .u64 0] 106 1 rfl (by unfold maxLen; omega) (by simp [Value.oneCell'])
   have HR1 := qh hrow1
   clear hbt hrow1 h1 h2 h3
   go_upto_region 5 with fail
   go_region_held3 (fun v => Mod (fun k => u3.ownBlock = some k) wr v /\ v.cell? ⟨w.heap.size, 9, none⟩ = some (.slice (some ⟨b, off, none⟩) l.length pc) /\ v.cell? ⟨b, off + i * 3, none⟩ = some (.string ⟨p.key.toArray⟩) /\ v.cell? ⟨b, off + i * 3 + 1, none⟩ = some (.string ⟨p.val.toArray⟩) /\ v.cell? ⟨b, off + i * 3 + 2, none⟩ = some (.int .u64 (p.ver : Int))) (first
    | exact hKP _ (Mod.of_ext hx0)
    | exact hKP _ (Mod.of_ext hxa)
    | exact hKP _ (Mod.of_ext (hxa.trans hx4))
    | exact hKP _ (Mod.of_ext (hxa.trans (hx4.trans (Ext.of_alloc w4 _))))
    | exact hKP _ hm5) (first
    | (go_at_call 36; refine (HBT.out _ HR1.out).mono ?_; rintro e w4 ⟨rfl, hx4⟩)
    | (refine step_appg el_str W1.heap.size _ ((hX.out.trans (hxa.trans (hx4.trans (Ext.of_alloc w4 _)))).size) rfl _ _ rfl u3 (i + 1) _ rfl ((hxa.trans (hx4.trans (Ext.of_alloc w4 _))).keptOwn hO.out) (.slice (some ⟨w4.heap.size, 0, none⟩) 1 1) 1 _ rfl (ReadsN.row 1 w4 [.string ⟨(S6.prB p).toArray⟩] 9 1 rfl (by unfold maxLen; omega) (by simp [Value.oneCell'])) (by omega) (by omega) ?_; intro v5 w5 hown5 hg5; have hm5 : Mod (fun k => u3.ownBlock = some k) wr w5 := Mod.trans (Mod.of_ext (hxa.trans (hx4.trans (Ext.of_alloc w4 _)))) (Mod.grown (F := fun k => u3.ownBlock = some k) hg5 (fun z e _ => e)) (fun _ _ h => h)))
   have HO5 : Hid (w5.ownsRow W1.heap.size 9 1 v5 (i + 1 + 1) (strs (S6.imgL l num (i + 1)))) := (show w5.ownsRow W1.heap.size 9 1 v5 (i + 1 + 1) (strs (S6.imgL l num (i + 1))) by rw [HSU.out]; unfold strs; rw [List.map_append]; exact hown5)
   have HX5 := qh (Mod.ext hX.out hm5 (fun z hz => hou z hz))
   clear hown5 hg5 hm5 hKP hou hx0 hxa hx4 hO hX c9 d0 d1 d2
   go_wp2_with fail
   exact ⟨⟨i + 1, by omega, by go_num, HO5, HX5⟩, by simp [intOf]; omega⟩
  ·obtain rfl : i = l.length := by omega
   have hge : ¬ ((l.length : Nat) : Int) < (l.length : Int) := by omega
   have hO2 := hO.out
   rw [S6.imgL_all] at hO2
   have HO2 := qh hO2
   clear hO hO2
   go_wp2_with fail
   go_ret
   have hle : (S6.image l num).length = l.length + 1 := by unfold S6.image; simp
   exact ⟨_, rfl, by rw [hle]; exact ownsRow_base5 HO2.out HX1.out.size, HX1.out.trans hX.out⟩
end Go.Proofs.YtnjfioikpajhlaaGreat
