import Derived.Test.YtnjfioikpajhlaaMSt5
import Derived.Test.YtnjfioikpajhlaaRefVar
/- The document's laid, Apply. (Printed by tools/mkrefd6.py.) -/
namespace Go.Proofs.Ytnjfioikpajhlaa
open Go.RowKit Go.Shelf

namespace S6
/-- A round of the document's laid. -/
def laidS (x : Pr) (st : List Pr × Bool) (p : Pr) : List Pr × Bool :=
  if p.key = x.key then st else if x.key < p.key ∧ st.2 = true then (st.1 ++ [x] ++ [p], false) else (st.1 ++ [p], st.2)
def laidF (l : List Pr) (x : Pr) (has : Bool) : List Pr := if has = true then ins l x else del l x.key
theorem laidS_lt (x : Pr) : ∀ (A : List Pr) (o : List Pr) (h : Bool), (∀ a ∈ A, a.key < x.key) → A.foldl (laidS x) (o, h) = (o ++ A, h)
  | [], o, h, _ => by simp
  | a :: A, o, h, hA => by
    have h1 := hA a List.mem_cons_self
    have h2 : ¬ a.key = x.key := fun e => lt_irr x.key (by rw [e] at h1; exact h1)
    have h3 : ¬ x.key < a.key := lt_asy h1
    rw [List.foldl_cons, show laidS x (o, h) a = (o ++ [a], h) by unfold laidS; simp [h2, h3], laidS_lt x A _ _ (fun b hb => hA b (List.mem_cons_of_mem _ hb))]
    simp
theorem laidS_eq (x : Pr) : ∀ (A : List Pr) (o : List Pr) (h : Bool), (∀ a ∈ A, a.key = x.key) → A.foldl (laidS x) (o, h) = (o, h)
  | [], o, h, _ => rfl
  | a :: A, o, h, hA => by
    rw [List.foldl_cons, show laidS x (o, h) a = (o, h) by unfold laidS; simp [hA a List.mem_cons_self], laidS_eq x A _ _ (fun b hb => hA b (List.mem_cons_of_mem _ hb))]
theorem laidS_gt (x : Pr) : ∀ (A : List Pr) (o : List Pr), (∀ a ∈ A, x.key < a.key) → A.foldl (laidS x) (o, false) = (o ++ A, false)
  | [], o, _ => by simp
  | a :: A, o, hA => by
    have h1 := hA a List.mem_cons_self
    have h2 : ¬ a.key = x.key := fun e => lt_irr x.key (by rw [e] at h1; exact h1)
    rw [List.foldl_cons, show laidS x (o, false) a = (o ++ [a], false) by unfold laidS; simp [h2], laidS_gt x A _ (fun b hb => hA b (List.mem_cons_of_mem _ hb))]
    simp
theorem laid_eq {l : List Pr} (h : Srt l) (x : Pr) (has : Bool) {o : List Pr} {h' : Bool} (e : l.foldl (laidS x) ([], has) = (o, h')) : (if h' = true then o ++ [x] else o) = laidF l x has := by
  obtain ⟨A, M, B, rfl, hA, hM, hB, -⟩ := mid_parts h x.key
  rw [List.foldl_append, laidS_lt x A _ _ hA, List.foldl_append, laidS_eq x M _ _ hM, List.nil_append] at e
  unfold laidF
  rw [ins_parts hA hM hB, del_parts hA hM hB]
  cases has with
  | false =>
    rw [laidS_gt x B _ hB] at e
    obtain ⟨rfl, rfl⟩ := Prod.mk.inj e
    simp
  | true =>
    cases B with
    | nil =>
      obtain ⟨rfl, rfl⟩ := Prod.mk.inj (show (A, true) = (o, h') from e)
      simp
    | cons b B =>
      have h1 := hB b List.mem_cons_self
      have h2 : ¬ b.key = x.key := fun e => lt_irr x.key (by rw [e] at h1; exact h1)
      rw [List.foldl_cons, show laidS x (A, true) b = (A ++ [x] ++ [b], false) by unfold laidS; simp [h1, h2], laidS_gt x B _ (fun c hc => hB c (List.mem_cons_of_mem _ hc))] at e
      obtain ⟨rfl, rfl⟩ := Prod.mk.inj e
      simp
theorem laidF_step (n : Nat) (l : List Pr) (x : Wr) : laidF l ⟨x.key, x.val, n⟩ (!x.drop) = stepW n l x := by
  unfold laidF stepW
  cases x.drop <;> simp
theorem laidS_len (x p : Pr) (o : List Pr) (h : Bool) (n : Nat) (hn : o.length + (if h = true then 1 else 0) ≤ n) : (laidS x (o, h) p).1.length + (if (laidS x (o, h) p).2 = true then 1 else 0) ≤ n + 1 := by
  unfold laidS
  split
  · exact Nat.le_succ_of_le hn
  · split
    · rename_i h1
      have h2 : h = true := h1.2
      subst h2
      simp at hn ⊢
      omega
    · show (o ++ [p]).length + (if h = true then 1 else 0) ≤ n + 1
      simp only [List.length_append, List.length_singleton]
      omega
end S6
theorem prcs_push (o : List S6.Pr) (p : S6.Pr) : prcs (o ++ [p]) (svals (o ++ [p])) = prcs o (svals o) ++ [.string ⟨p.key.toArray⟩, .string ⟨p.val.toArray⟩, .int .u64 (p.ver : Int)] := by
  rw [svals_append, prcs_append _ _ _ _ (svals_len _)]
  simp [svals, prcs, prc, strV]
set_option maxRecDepth 100000 in
set_option maxHeartbeats 6400000 in
theorem refLaid (w : World) (v : Value) (l : List S6.Pr) (x : S6.Pr) (has : Bool) (h : RPs w v l) (hl : l.length ≤ 900000) (hs : S6.Srt l) :
    Calls Try.prog 45 #[v, .agg #[.string ⟨x.key.toArray⟩, .string ⟨x.val.toArray⟩, .int .u64 (x.ver : Int)], .bool has] w fun e w' => ∃ v', e = .returned v' ∧ w'.ownsRow w.heap.size 54 3 v' (S6.laidF l x has).length (prcs (S6.laidF l x has) (svals (S6.laidF l x has))) ∧ Ext w w' := by
  obtain ⟨_, a, cap, rfl, _, hcell⟩ := h.shape
  have HC := Lib.hid hcell
  have hli : (l.length : Int) ≤ 900000 := by omega
  have HSR := Lib.hid hs
  clear h hcell hs
  have hx1 := Ext.of_alloc w (.cells #[.string ⟨x.key.toArray⟩, .string ⟨x.val.toArray⟩, .int .u64 (x.ver : Int)] 54)
  have hb1 := heap_alloc_new w (.cells #[.string ⟨x.key.toArray⟩, .string ⟨x.val.toArray⟩, .int .u64 (x.ver : Int)] 54)
  have hs1 : (w.alloc (.cells #[.string ⟨x.key.toArray⟩, .string ⟨x.val.toArray⟩, .int .u64 (x.ver : Int)] 54)).heap.size = w.heap.size + 1 := World.size_alloc _ _
  obtain ⟨W1, hW1⟩ : ∃ W1, W1 = w.alloc (.cells #[.string ⟨x.key.toArray⟩, .string ⟨x.val.toArray⟩, .int .u64 (x.ver : Int)] 54) := ⟨_, rfl⟩
  rw [← hW1] at hx1 hb1 hs1
  have k0 : W1.cell? ⟨w.heap.size, 0, none⟩ = some (.string ⟨x.key.toArray⟩) := (blk_cell hb1 0).trans rfl
  have k1 : W1.cell? ⟨w.heap.size, 1, none⟩ = some (.string ⟨x.val.toArray⟩) := (blk_cell hb1 1).trans rfl
  have k2 : W1.cell? ⟨w.heap.size, 2, none⟩ = some (.int .u64 (x.ver : Int)) := (blk_cell hb1 2).trans rfl
  have HW1 := Lib.hid hW1
  have HX1 := Lib.hid hx1
  clear hW1 hb1 hs1 hx1
  go_enter Try.func45, Try.ntmps45
  go_upto_region 1 with fail
  rw [show w.alloc (.cells #[.string ⟨x.key.toArray⟩, .string ⟨x.val.toArray⟩, .int .u64 (x.ver : Int)] 54) = W1 from HW1.out.symm]
  clear HW1
  go_wp2_with fail
  go_loopw [2, 7, 8] (fun hv ov iv wr => ∃ (i : Nat) (o : List S6.Pr) (h : Bool), i ≤ l.length ∧ iv = .int .i64 (i : Int) ∧ hv = .bool h ∧ o.length + (if h = true then 1 else 0) ≤ i + 1 ∧ Hid ((l.take i).foldl (S6.laidS x) ([], has) = (o, h)) ∧ Hid (wr.ownsRow W1.heap.size 54 3 ov o.length (prcs o (svals o))) ∧ Hid (Ext W1 wr)) (fun _ _ iv _ => l.length - (intOf iv).toNat)
  case atStart => exact ⟨0, [], has, Nat.zero_le _, rfl, rfl, by cases has <;> simp, rfl, World.ownsRow_nil _ _ _ _, Ext.refl _⟩
  case round =>
    obtain ⟨i, o, h, hi, rfl, rfl, hol, hF, hO, hX⟩ := hrel
    by_cases hlt : i < l.length
    · have hlti : (i : Int) < (l.length : Int) := by omega
      obtain ⟨b, off, rfl, d0, d1, d2⟩ := HC.out i hlt
      unfold strV at d0 d1
      have c0 := (HX1.out.trans hX.out).cell d0
      have c1 := (HX1.out.trans hX.out).cell d1
      have c2 := (HX1.out.trans hX.out).cell d2
      have hfs : (l.take (i + 1)).foldl (S6.laidS x) ([], has) = S6.laidS x (o, h) l[i] := by
        rw [List.take_succ_eq_append_getElem hlt, List.foldl_append, hF.out]; rfl
      have hls := S6.laidS_len x l[i] o h (i + 1) hol
      generalize l[i] = p at *
      have j0 := hX.out.cell k0
      have j1 := hX.out.cell k1
      have j2 := hX.out.cell k2
      have bx := bytesLess_eq p.key x.key
      have hol2 : o.length ≤ 900001 := by omega
      rcases S6.lt_tri p.key x.key with hc | hc | hc
      · have hne : ¬ p.key = x.key := fun e => S6.lt_irr x.key (by rw [e] at hc; exact hc)
        have heb : (p.key == x.key) = false := by rw [beq_eq_false_iff_ne]; exact hne
        rw [decide_eq_true hc] at bx
        have hst : S6.laidS x (o, h) p = (o ++ [p], h) := by unfold S6.laidS; simp [hne, S6.lt_asy hc]
        rw [hst] at hfs hls
        have HFS := Lib.hid hfs
        have HLS := Lib.hid hls
        clear hfs hls hst hc hne k0 k1 k2 hF hol d0 d1 d2
        go_wp2_with fail
        go_region
        go_wp2_with fail
        go_region
        have hxa := (Ext.of_drew wr).trans ((Ext.of_drew wr.drew).trans (Ext.of_alloc wr.drew.drew (.cells #[.string ⟨p.key.toArray⟩, .string ⟨p.val.toArray⟩, .int .u64 (p.ver : Int)] 54)))
        have hrow := ReadsN.row 3 wr.drew.drew [.string ⟨p.key.toArray⟩, .string ⟨p.val.toArray⟩, .int .u64 (p.ver : Int)] 54 1 rfl (by unfold maxLen; omega) (by simp [Value.oneCell'])
        go_wp2_with (first
          | ((with_reducible show wpList _ _ _ (⟨some 44, _, _, _, _, _⟩ :: _) _ _); refine wpl_appg el_rpair W1.heap.size _ (hX.out.trans hxa).size rfl _ _ rfl u7 o.length _ (by rfl) (hxa.keptOwn hO.out) (.slice (some ⟨wr.drew.drew.heap.size, 0, none⟩) 1 1) 1 _ (by rfl) hrow (by omega) (by omega) ?_; intro v5 w5 hown5 hg5)
          | fail)
        have HX5 := Lib.hid ((hX.out.trans hxa).grown hg5 (fun k hk => (hO.out.lt k hk).1))
        have HO5 := Lib.hid (show w5.ownsRow W1.heap.size 54 3 v5 (o ++ [p]).length (prcs (o ++ [p]) (svals (o ++ [p]))) by rw [prcs_push, List.length_append]; exact hown5)
        clear hown5 hg5 hxa hrow hO hX
        go_wp2_with fail
        exact ⟨⟨i + 1, o ++ [p], h, by omega, by go_num, rfl, HLS.out, HFS, HO5, HX5⟩, by simp [intOf]; omega⟩
      · have heb : (p.key == x.key) = true := by rw [beq_iff_eq]; exact hc
        rw [decide_eq_false (by rw [hc]; exact S6.lt_irr _)] at bx
        have hst : S6.laidS x (o, h) p = (o, h) := by unfold S6.laidS; simp [hc]
        rw [hst] at hfs hls
        have HFS := Lib.hid hfs
        have HLS := Lib.hid hls
        clear hfs hls hst hc k0 k1 k2 hF hol d0 d1 d2
        go_wp2_with fail
        go_region
        go_wp2_with fail
        go_region
        have HX5 := Lib.hid (hX.out.trans ((Ext.of_drew wr).trans (Ext.of_drew wr.drew)))
        have HO5 := Lib.hid (((Ext.of_drew wr).trans (Ext.of_drew wr.drew)).keptOwn hO.out)
        clear hX hO
        go_wp2_with fail
        exact ⟨⟨i + 1, o, h, by omega, by go_num, rfl, HLS.out, HFS, HO5, HX5⟩, by simp [intOf]; omega⟩
      · have hne : ¬ p.key = x.key := fun e => S6.lt_irr x.key (by rw [e] at hc; exact hc)
        have heb : (p.key == x.key) = false := by rw [beq_eq_false_iff_ne]; exact hne
        rw [decide_eq_false (S6.lt_asy hc)] at bx
        cases h with
        | false =>
          have hst : S6.laidS x (o, false) p = (o ++ [p], false) := by unfold S6.laidS; simp [hne]
          rw [hst] at hfs hls
          have HFS := Lib.hid hfs
          have HLS := Lib.hid hls
          clear hfs hls hst hc hne k0 k1 k2 hF hol d0 d1 d2
          go_wp2_with fail
          go_region
          go_wp2_with fail
          go_region
          have hxa := (Ext.of_drew wr).trans ((Ext.of_drew wr.drew).trans (Ext.of_alloc wr.drew.drew (.cells #[.string ⟨p.key.toArray⟩, .string ⟨p.val.toArray⟩, .int .u64 (p.ver : Int)] 54)))
          have hrow := ReadsN.row 3 wr.drew.drew [.string ⟨p.key.toArray⟩, .string ⟨p.val.toArray⟩, .int .u64 (p.ver : Int)] 54 1 rfl (by unfold maxLen; omega) (by simp [Value.oneCell'])
          go_wp2_with (first
            | ((with_reducible show wpList _ _ _ (⟨some 44, _, _, _, _, _⟩ :: _) _ _); refine wpl_appg el_rpair W1.heap.size _ (hX.out.trans hxa).size rfl _ _ rfl u7 o.length _ (by rfl) (hxa.keptOwn hO.out) (.slice (some ⟨wr.drew.drew.heap.size, 0, none⟩) 1 1) 1 _ (by rfl) hrow (by omega) (by omega) ?_; intro v5 w5 hown5 hg5)
            | fail)
          have HX5 := Lib.hid ((hX.out.trans hxa).grown hg5 (fun k hk => (hO.out.lt k hk).1))
          have HO5 := Lib.hid (show w5.ownsRow W1.heap.size 54 3 v5 (o ++ [p]).length (prcs (o ++ [p]) (svals (o ++ [p]))) by rw [prcs_push, List.length_append]; exact hown5)
          clear hown5 hg5 hxa hrow hO hX
          go_wp2_with fail
          exact ⟨⟨i + 1, o ++ [p], false, by omega, by go_num, rfl, HLS.out, HFS, HO5, HX5⟩, by simp [intOf]; omega⟩
        | true =>
          have hst : S6.laidS x (o, true) p = (o ++ [x] ++ [p], false) := by unfold S6.laidS; simp [hne, hc]
          rw [hst] at hfs hls
          have HFS := Lib.hid hfs
          have HLS := Lib.hid hls
          clear hfs hls hst hc hne hF hol
          have hxa := (Ext.of_drew wr).trans (Ext.of_alloc wr.drew (.cells #[.string ⟨x.key.toArray⟩, .string ⟨x.val.toArray⟩, .int .u64 (x.ver : Int)] 54))
          have hrow := ReadsN.row 3 wr.drew [.string ⟨x.key.toArray⟩, .string ⟨x.val.toArray⟩, .int .u64 (x.ver : Int)] 54 1 rfl (by unfold maxLen; omega) (by simp [Value.oneCell'])
          go_wp2_with fail
          go_region
          go_wp2_with (first
            | ((with_reducible show wpList _ _ _ (⟨some 29, _, _, _, _, _⟩ :: _) _ _); refine wpl_appg el_rpair W1.heap.size _ (hX.out.trans hxa).size rfl _ _ rfl u7 o.length _ (by rfl) (hxa.keptOwn hO.out) (.slice (some ⟨wr.drew.heap.size, 0, none⟩) 1 1) 1 _ (by rfl) hrow (by omega) (by omega) ?_; intro v5 w5 hown5 hg5; have hx5 := (hX.out.trans hxa).grown hg5 (fun k hk => (hO.out.lt k hk).1); have e0 := (HX1.out.trans hx5).cell d0; have e1 := (HX1.out.trans hx5).cell d1; have e2 := (HX1.out.trans hx5).cell d2; have f0 := hx5.cell k0)
            | fail)
          have HX5 := Lib.hid hx5
          have HO5 := Lib.hid (show w5.ownsRow W1.heap.size 54 3 v5 (o ++ [x]).length (prcs (o ++ [x]) (svals (o ++ [x]))) by rw [prcs_push, List.length_append]; exact hown5)
          clear hown5 hg5 hxa hrow hO hX hx5 k0 k1 k2 d0 d1 d2 c0 c1 c2 j0 j1 j2
          go_region
          have hxb := (Ext.of_drew w5).trans (Ext.of_alloc w5.drew (.cells #[.string ⟨p.key.toArray⟩, .string ⟨p.val.toArray⟩, .int .u64 (p.ver : Int)] 54))
          have hrow2 := ReadsN.row 3 w5.drew [.string ⟨p.key.toArray⟩, .string ⟨p.val.toArray⟩, .int .u64 (p.ver : Int)] 54 1 rfl (by unfold maxLen; omega) (by simp [Value.oneCell'])
          have hox : (o ++ [x]).length = o.length + 1 := by simp
          have HOX := Lib.hid hox
          clear hox
          go_wp2_with (first
            | ((with_reducible show wpList _ _ _ (⟨some 44, _, _, _, _, _⟩ :: _) _ _); refine wpl_appg el_rpair W1.heap.size _ (HX5.out.trans hxb).size rfl _ _ rfl v5 (o ++ [x]).length _ (by rfl) (hxb.keptOwn HO5.out) (.slice (some ⟨w5.drew.heap.size, 0, none⟩) 1 1) 1 _ (by rfl) hrow2 (by have := HOX.out; omega) (by have := HOX.out; omega) ?_; intro v6 w6 hown6 hg6)
            | fail)
          have HX6 := Lib.hid ((HX5.out.trans hxb).grown hg6 (fun k hk => (HO5.out.lt k hk).1))
          have HO6 := Lib.hid (show w6.ownsRow W1.heap.size 54 3 v6 (o ++ [x] ++ [p]).length (prcs (o ++ [x] ++ [p]) (svals (o ++ [x] ++ [p]))) by rw [prcs_push, List.length_append]; exact hown6)
          clear hown6 hg6 hxb hrow2 HX5 HO5
          go_wp2_with fail
          exact ⟨⟨i + 1, o ++ [x] ++ [p], false, by omega, by go_num, rfl, HLS.out, HFS, HO6, HX6⟩, by simp [intOf]; omega⟩
    · obtain rfl : i = l.length := by omega
      have hge : ¬ ((l.length : Nat) : Int) < (l.length : Int) := by omega
      have hF2 := hF.out
      rw [List.take_length] at hF2
      have hfin := S6.laid_eq HSR.out x has hF2
      have j0 := hX.out.cell k0
      have j1 := hX.out.cell k1
      have j2 := hX.out.cell k2
      have hol2 : o.length ≤ 900001 := by omega
      cases h with
      | false =>
        have hfin2 : o = S6.laidF l x has := hfin
        have HFN := Lib.hid hfin2
        clear hfin hfin2 hF2 hF
        go_wp2_with fail
        go_ret
        exact ⟨_, rfl, by rw [← HFN.out]; exact ownsRow_base5 hO.out HX1.out.size, HX1.out.trans hX.out⟩
      | true =>
        have hfin2 : o ++ [x] = S6.laidF l x has := hfin
        have HFN := Lib.hid hfin2
        clear hfin hfin2 hF2 hF
        have hxa := Ext.of_alloc wr (.cells #[.string ⟨x.key.toArray⟩, .string ⟨x.val.toArray⟩, .int .u64 (x.ver : Int)] 54)
        have hrow := ReadsN.row 3 wr [.string ⟨x.key.toArray⟩, .string ⟨x.val.toArray⟩, .int .u64 (x.ver : Int)] 54 1 rfl (by unfold maxLen; omega) (by simp [Value.oneCell'])
        go_wp2_with (first
          | ((with_reducible show wpList _ _ _ (⟨some 49, _, _, _, _, _⟩ :: _) _ _); refine wpl_appg el_rpair W1.heap.size _ (hX.out.trans hxa).size rfl _ _ rfl u7 o.length _ (by rfl) (hxa.keptOwn hO.out) (.slice (some ⟨wr.heap.size, 0, none⟩) 1 1) 1 _ (by rfl) hrow (by omega) (by omega) ?_; intro v5 w5 hown5 hg5)
          | fail)
        have HX5 := Lib.hid ((hX.out.trans hxa).grown hg5 (fun k hk => (hO.out.lt k hk).1))
        have HO5 := Lib.hid (show w5.ownsRow W1.heap.size 54 3 v5 (o ++ [x]).length (prcs (o ++ [x]) (svals (o ++ [x]))) by rw [prcs_push, List.length_append]; exact hown5)
        clear hown5 hg5 hxa hrow hO hX
        go_wp2_with fail
        go_ret
        exact ⟨_, rfl, by rw [← HFN.out]; exact ownsRow_base5 HO5.out HX1.out.size, HX1.out.trans HX5.out⟩
end Go.Proofs.Ytnjfioikpajhlaa
