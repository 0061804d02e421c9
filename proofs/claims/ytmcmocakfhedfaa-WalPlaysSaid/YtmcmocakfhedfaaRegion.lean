/- A region that draws its order, whose loads are read ahead of one operation 'c' (an append, say, and the store behind it): up to c a condition S holds on the world, behind it none: so c may write what was loaded. -/
import Derived.WalkKit
import Derived.Deep.RegionHeld3
namespace Go.Proofs.Ytmcmocakfhedfaa
open Go.RowKit

section
variable {P : Program} {ops : Array Oper} {Q : Exit → Act → World → Prop} {md : Region.Mode} {S : World → Prop} {c : Nat}

/-- Whatever order is picked; S holds behind every operation that is carried out ahead of c. -/
def wpAnyC (P : Program) (md : Region.Mode) (ops : Array Oper) (Q : Exit → Act → World → Prop) (S : World → Prop) (c : Nat) : Nat → Array Bool → Act → World → Prop
  | 0, listed, a, w => Region.ready md ops listed = [] ∧ Q .normal a w
  | fuel + 1, listed, a, w =>
    (Region.ready md ops listed = [] → Q .normal a w) ∧
    (∀ i ∈ Region.ready md ops listed, i ≠ c → wpOp P ops Q i (fun a' w' => S w' ∧ wpAnyC P md ops Q S c fuel (listed.setIfInBounds i true) a' w') a w) ∧
    (c ∈ Region.ready md ops listed → wpOp P ops Q c (wpAny P md ops Q fuel (listed.setIfInBounds c true)) a w)

theorem wpAny_of_C : ∀ (fuel : Nat) (listed : Array Bool) (a : Act) (w : World), wpAnyC P md ops Q S c fuel listed a w → wpAny P md ops Q fuel listed a w
  | 0, _, _, _, h => h
  | fuel + 1, _, _, _, h => ⟨h.1, fun i hi => by
      by_cases hic : i = c
      · subst hic; exact h.2.2 hi
      · exact wpOp_mono (fun a' w' h' => wpAny_of_C fuel _ a' w' h'.2) (h.2.1 i hi hic)⟩

/-- Each of the path's operations waits for the one ahead of it. -/
def chained (md : Region.Mode) (ops : Array Oper) : List Nat → Bool
  | i :: j :: r => ((ops[j]?).map (fun o => o.after.any (fun e => Region.binds md e && e.on == i))).getD false && chained md ops (j :: r)
  | _ => true

theorem chained_spec : ∀ (path : List Nat) (i : Nat), chained md ops (i :: path) = true → ∀ (listed : Array Bool), listed.getD i false = false → (∀ k ∈ path, listed.getD k false = false) →
    ∀ k ∈ path, k ∉ Region.ready md ops listed := by
  intro path
  induction path with
  | nil => intro i _ listed _ _ k hk; cases hk
  | cons j r ih =>
    intro i h listed hi hall k hk
    simp only [chained, Bool.and_eq_true] at h
    rcases List.mem_cons.1 hk with rfl | hk
    · intro hr
      obtain ⟨_, o, ho, hw⟩ := mem_ready.1 hr
      have h1 := h.1
      rw [ho] at h1
      simp only [Option.map_some, Option.getD_some] at h1
      obtain ⟨e, he, hb⟩ := Array.any_eq_true'.1 h1
      simp only [Bool.and_eq_true, beq_iff_eq] at hb
      have := hw e he hb.1
      rw [hb.2, hi] at this
      cases this
    · exact ih j h.2 listed (hall j (by simp)) (fun q hq => hall q (by simp [hq])) k hk

/-- An operation that waits for none, yields its value in every world that meets S, and for which c waits, may be taken first. -/
theorem wpAnyC_first {i : Nat} {oi : Oper} {v : Value} {path : List Nat} (hi : ops[i]? = some oi) (hpath : chained md ops (i :: path) = true) (hcp : c ∈ path)
    (hsel : ∀ (j : Nat) (o : Oper) cs b, ops[j]? = some o → o.op ≠ .select cs b)
    (hQ : ∀ c a w, Q (.panic c) (a.put oi.dst v) w → Q (.panic c) a w) :
    ∀ (fuel : Nat) (listed : Array Bool) (a : Act) (w : World),
      (∀ j oj, ops[j]? = some oj → j ≠ i → listed.getD j true = false → (∀ e ∈ oj.after, Region.binds md e = true → e.on ≠ i) → oi.apart ops oj = true) →
      i ∈ Region.ready md ops listed → (∀ k ∈ path, listed.getD k false = false ∧ k ≠ i) → YieldsIf P ops S oi v a → S w →
      wpAnyC P md ops Q S c fuel (listed.setIfInBounds i true) (a.put oi.dst v) w → wpAnyC P md ops Q S c (fuel + 1) listed a w := by
  intro fuel
  induction fuel with
  | zero =>
    intro listed a w _ hr hp hy hS H
    have hci : c ≠ i := (hp c hcp).2
    have hil : listed.getD i false = false := by
      have h0 := (mem_ready.1 hr).1
      rcases Nat.lt_or_ge i listed.size with h' | h'
      · simpa [h'] using h0
      · simp [h']
    refine ⟨fun h => (by rw [h] at hr; cases hr), fun j hj hjc => ?_, fun hc => absurd hc (chained_spec path i hpath listed hil (fun k hk => (hp k hk).1) c hcp)⟩
    by_cases hji : j = i
    · subst hji; exact hy.wpOp hi hS ⟨hS, H⟩
    · have := ready_mono hj hji
      rw [H.1] at this
      cases this
  | succ fuel ih =>
    intro listed a w hfree hr hp hy hS H
    have hil : listed.getD i false = false := by
      have h0 := (mem_ready.1 hr).1
      rcases Nat.lt_or_ge i listed.size with h' | h'
      · simpa [h'] using h0
      · simp [h']
    have hnr := chained_spec path i hpath listed hil (fun k hk => (hp k hk).1)
    refine ⟨fun h => (by rw [h] at hr; cases hr), fun j hj hjc => ?_, fun hc => absurd hc (hnr c hcp)⟩
    by_cases hji : j = i
    · subst hji; exact hy.wpOp hi hS ⟨hS, H⟩
    · have h1 := H.2.1 j (ready_mono hj hji) hjc
      obtain ⟨hjun, oj, hoj, hall⟩ := mem_ready.1 hj
      have hnot : ∀ e ∈ oj.after, Region.binds md e = true → e.on ≠ i := fun e he hb heq => by
        have h1 := hall e he hb
        rw [heq, hil] at h1
        cases h1
      have h2 := wpOp_putIf hoj (hfree j oj hoj hji hjun hnot) (fun cs b => hsel i oi cs b hi) (fun cs b => hsel j oj cs b hoj) hQ hy h1
      have hfree' : ∀ k ok, ops[k]? = some ok → k ≠ i → (listed.setIfInBounds j true).getD k true = false →
          (∀ e ∈ ok.after, Region.binds md e = true → e.on ≠ i) → oi.apart ops ok = true := fun k ok hk hki hun hno => by
        refine hfree k ok hk hki ?_ hno
        by_cases hjk : j = k
        · subst hjk; exact hjun
        · rw [getD_set_ne true hjk] at hun; exact hun
      have hp' : ∀ k ∈ path, (listed.setIfInBounds j true).getD k false = false ∧ k ≠ i := fun k hk => by
        refine ⟨?_, (hp k hk).2⟩
        have hjk : j ≠ k := fun e => hnr k hk (e ▸ hj)
        rw [getD_set_ne false hjk]; exact (hp k hk).1
      refine wpOp_mono (fun a' w' h3 => ⟨h3.2.1, ih (listed.setIfInBounds j true) a' w' hfree' (ready_mono hr (Ne.symm hji)) hp' h3.1 h3.2.1 ?_⟩) h2
      rw [Array.setIfInBounds_comm _ _ hji]
      exact h3.2.2

/-- Take number i first. -/
theorem wpAnyC_take {i : Nat} {oi : Oper} {v : Value} {fuel : Nat} {listed : Array Bool} {a : Act} {w : World} (path : List Nat) (hi : ops[i]? = some oi)
    (hs : Region.noSelect ops = true) (hf : Region.free md ops listed i = true) (hr : (Region.ready md ops listed).contains i = true)
    (hpath : (chained md ops (i :: path) && path.contains c && path.all (fun k => !listed.getD k false && k != i)) = true)
    (hQ : ∀ c a w, Q (.panic c) (a.put oi.dst v) w → Q (.panic c) a w) (hy : YieldsIf P ops S oi v a) (hS : S w)
    (h : wpAnyC P md ops Q S c fuel (listed.setIfInBounds i true) (a.put oi.dst v) w) : wpAnyC P md ops Q S c (fuel + 1) listed a w := by
  simp only [Bool.and_eq_true] at hpath
  refine wpAnyC_first hi hpath.1.1 (by simpa using hpath.1.2) (Region.noSelect_spec hs) hQ fuel listed a w (Region.free_spec hi hf) (by simpa using hr) (fun k hk => ?_) hy hS h
  have := List.all_eq_true.1 hpath.2 k hk
  simp only [Bool.and_eq_true, Bool.not_eq_true', bne_iff_ne] at this
  exact this

/-- An operation that yields its value in whatever world may be taken first, whether c waits for it or not. -/
theorem wpAnyC_pure_first {i : Nat} {oi : Oper} {v : Value} (hi : ops[i]? = some oi) (hic : i ≠ c) (hsel : ∀ (j : Nat) (o : Oper) cs b, ops[j]? = some o → o.op ≠ .select cs b)
    (hQ : ∀ c a w, Q (.panic c) (a.put oi.dst v) w → Q (.panic c) a w) :
    ∀ (fuel : Nat) (listed : Array Bool) (a : Act) (w : World),
      (∀ j oj, ops[j]? = some oj → j ≠ i → listed.getD j true = false → (∀ e ∈ oj.after, Region.binds md e = true → e.on ≠ i) → oi.apart ops oj = true) →
      i ∈ Region.ready md ops listed → Yields P ops oi v a → S w →
      wpAnyC P md ops Q S c fuel (listed.setIfInBounds i true) (a.put oi.dst v) w → wpAnyC P md ops Q S c (fuel + 1) listed a w := by
  intro fuel
  induction fuel with
  | zero =>
    intro listed a w _ hr hy hS H
    refine ⟨fun h => (by rw [h] at hr; cases hr), fun j hj hjc => ?_, fun hc => ?_⟩
    · by_cases hji : j = i
      · subst hji; exact hy.wpOp hi ⟨hS, H⟩
      · have := ready_mono hj hji
        rw [H.1] at this
        cases this
    · have := ready_mono hc (Ne.symm hic)
      rw [H.1] at this
      cases this
  | succ fuel ih =>
    intro listed a w hfree hr hy hS H
    have hil : listed.getD i false = false := by
      have h0 := (mem_ready.1 hr).1
      rcases Nat.lt_or_ge i listed.size with h' | h'
      · simpa [h'] using h0
      · simp [h']
    have hfree' : ∀ j, j ∈ Region.ready md ops listed → ∀ k ok, ops[k]? = some ok → k ≠ i → (listed.setIfInBounds j true).getD k true = false →
        (∀ e ∈ ok.after, Region.binds md e = true → e.on ≠ i) → oi.apart ops ok = true := fun j hj k ok hk hki hun hno => by
      refine hfree k ok hk hki ?_ hno
      by_cases hjk : j = k
      · subst hjk; exact (mem_ready.1 hj).1
      · rw [getD_set_ne true hjk] at hun; exact hun
    have hap : ∀ j oj, ops[j]? = some oj → j ∈ Region.ready md ops listed → j ≠ i → oi.apart ops oj = true := fun j oj hoj hj hji => by
      obtain ⟨hjun, oj', hoj', hall⟩ := mem_ready.1 hj
      rw [hoj] at hoj'
      obtain rfl := Option.some.inj hoj'
      exact hfree j oj hoj hji hjun (fun e he hb heq => by
        have h1 := hall e he hb
        rw [heq, hil] at h1
        cases h1)
    refine ⟨fun h => (by rw [h] at hr; cases hr), fun j hj hjc => ?_, fun hc => ?_⟩
    · by_cases hji : j = i
      · subst hji; exact hy.wpOp hi ⟨hS, H⟩
      · have h1 := H.2.1 j (ready_mono hj hji) hjc
        obtain ⟨hjun, oj, hoj, hall⟩ := mem_ready.1 hj
        have h2 := wpOp_put hoj (hap j oj hoj hj hji) (fun cs b => hsel i oi cs b hi) (fun cs b => hsel j oj cs b hoj) hQ hy h1
        refine wpOp_mono (fun a' w' h3 => ⟨h3.2.1, ih (listed.setIfInBounds j true) a' w' (hfree' j hj) (ready_mono hr (Ne.symm hji)) h3.1 h3.2.1 ?_⟩) h2
        rw [Array.setIfInBounds_comm _ _ hji]
        exact h3.2.2
    · have h1 := H.2.2 (ready_mono hc (Ne.symm hic))
      obtain ⟨hjun, oj, hoj, hall⟩ := mem_ready.1 hc
      have h2 := wpOp_put hoj (hap c oj hoj hc (Ne.symm hic)) (fun cs b => hsel i oi cs b hi) (fun cs b => hsel c oj cs b hoj) hQ hy h1
      refine wpOp_mono (fun a' w' h3 => wpAny_first hi hsel hQ fuel (listed.setIfInBounds c true) a' w' (hfree' c hc) (ready_mono hr hic) h3.1 ?_) h2
      rw [Array.setIfInBounds_comm _ _ (Ne.symm hic)]
      exact h3.2
theorem wpAnyC_pure {i : Nat} {oi : Oper} {v : Value} {fuel : Nat} {listed : Array Bool} {a : Act} {w : World} (hi : ops[i]? = some oi) (hic : (i != c) = true)
    (hs : Region.noSelect ops = true) (hf : Region.free md ops listed i = true) (hr : (Region.ready md ops listed).contains i = true)
    (hQ : ∀ c a w, Q (.panic c) (a.put oi.dst v) w → Q (.panic c) a w) (hy : Yields P ops oi v a) (hS : S w)
    (h : wpAnyC P md ops Q S c fuel (listed.setIfInBounds i true) (a.put oi.dst v) w) : wpAnyC P md ops Q S c (fuel + 1) listed a w :=
  wpAnyC_pure_first hi (by simpa using hic) (Region.noSelect_spec hs) hQ fuel listed a w (Region.free_spec hi hf) (by simpa using hr) hy hS h

/-- One operation alone may come up, ahead of c: behind it S is to be shown anew. -/
theorem wpAnyC_one {i : Nat} {oi : Oper} {fuel : Nat} {listed : Array Bool} {a : Act} {w : World} (hi : ops[i]? = some oi) (hr : Region.ready md ops listed = [i]) (hc : (i == c) = false)
    (h : ∀ K' : Act → World → Prop, Shut (∀ a w, S w → wpAnyC P md ops Q S c fuel (listed.setIfInBounds i true) a w → K' a w) → if Region.wanted oi (yielded ops a.tmps) = true then Oper.wp P oi a w K' Q else K' (a.put oi.dst undef) w) :
    wpAnyC P md ops Q S c (fuel + 1) listed a w := by
  refine ⟨fun h0 => (by rw [h0] at hr; cases hr), fun j hj _ => ?_, fun hcr => ?_⟩
  · rw [hr, List.mem_singleton] at hj
    subst hj
    exact wpOp_step hi (fun K' hK => h K' (fun a w hS hW => hK a w ⟨hS, hW⟩))
  · rw [hr, List.mem_singleton] at hcr
    subst hcr; simp at hc

/-- c alone may come up. -/
theorem wpAnyC_c {oi : Oper} {fuel : Nat} {listed : Array Bool} {a : Act} {w : World} (hi : ops[c]? = some oi) (hr : Region.ready md ops listed = [c])
    (h : ∀ K' : Act → World → Prop, Shut (∀ a w, wpAny P md ops Q fuel (listed.setIfInBounds c true) a w → K' a w) → if Region.wanted oi (yielded ops a.tmps) = true then Oper.wp P oi a w K' Q else K' (a.put oi.dst undef) w) :
    wpAnyC P md ops Q S c (fuel + 1) listed a w := by
  refine ⟨fun h0 => (by rw [h0] at hr; cases hr), fun j hj hjc => ?_, fun _ => wpOp_step hi (fun K' hK => h K' hK)⟩
  rw [hr, List.mem_singleton] at hj
  exact absurd hj hjc

/-- Behind c: one operation alone may come up. -/
theorem wpAny_one {i : Nat} {oi : Oper} {fuel : Nat} {listed : Array Bool} {a : Act} {w : World} (hi : ops[i]? = some oi) (hr : Region.ready md ops listed = [i])
    (h : ∀ K' : Act → World → Prop, Shut (∀ a w, wpAny P md ops Q fuel (listed.setIfInBounds i true) a w → K' a w) → if Region.wanted oi (yielded ops a.tmps) = true then Oper.wp P oi a w K' Q else K' (a.put oi.dst undef) w) :
    wpAny P md ops Q (fuel + 1) listed a w := by
  refine ⟨fun h0 => (by rw [h0] at hr; cases hr), fun j hj => ?_⟩
  rw [hr, List.mem_singleton] at hj
  subst hj
  exact wpOp_step hi (fun K' hK => h K' hK)

/-- The beginning. -/
theorem wp_region_C {id : Nat} {a : Act} {w : World} (S : World → Prop) (c : Nat) (hm : P.follows .mixedOrders = true)
    (h : wpAnyC P .any ops Q S c ops.size (Array.replicate ops.size false) a w.drew) : (Code.region id ops true).wp P Q a w :=
  wp_region_any hm (wpAny_of_C _ _ _ _ h)
end
end Go.Proofs.Ytmcmocakfhedfaa
