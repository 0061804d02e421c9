import Derived.Test.YtnjfioikpajhlaaPlainX
/- The store's plain law: what a good batch does to the keys; counts. -/
namespace Go.Proofs.Ytnjfioikpajhlaa
namespace S6
theorem named_iff {ws : List Wr} {k : Key} : named ws k = true ↔ ∃ y ∈ ws, y.key = k := by
  unfold named
  rw [List.any_eq_true]
  constructor
  · rintro ⟨y, h1, h2⟩; exact ⟨y, h1, of_decide_eq_true h2⟩
  · rintro ⟨y, h1, h2⟩; exact ⟨y, h1, decide_eq_true h2⟩
theorem named_nil (k : Key) : named [] k = false := rfl
theorem named_cons (x : Wr) (ws : List Wr) (k : Key) : named (x :: ws) k = (decide (x.key = k) || named ws k) := rfl
theorem named_snoc (x : Wr) (ws : List Wr) (k : Key) : named (ws ++ [x]) k = (named ws k || decide (x.key = k)) := by simp [named]
theorem stepW_look {l : List Pr} (h : Srt l) (n : Nat) (x : Wr) (k : Key) : look (stepW n l x) k = if k = x.key then (if x.drop = true then none else some ⟨x.key, x.val, n⟩) else look l k := by
  unfold stepW
  by_cases hd : x.drop = true
  · rw [if_pos hd, look_del h, if_pos hd]
  · rw [if_neg hd, look_ins h, if_neg hd]
theorem apl_look_no {n : Nat} : ∀ (ws : List Wr) {l : List Pr} (_ : Srt l) (k : Key), (∀ y ∈ ws, y.key ≠ k) → look (apl l n ws) k = look l k
  | [], l, h, k, _ => rfl
  | x :: ws, l, h, k, hn => by
    rw [apl_cons, apl_look_no ws (stepW_srt h n x) k (fun y hy => hn y (List.mem_cons_of_mem _ hy)), stepW_look h, if_neg (fun e => hn x List.mem_cons_self e.symm)]
theorem apl_look {n : Nat} : ∀ (ws : List Wr) {l : List Pr} (_ : Srt l), ws.Pairwise (fun a b => a.key ≠ b.key) → ∀ x ∈ ws, look (apl l n ws) x.key = if x.drop = true then none else some ⟨x.key, x.val, n⟩
  | [], l, h, hp, x, hx => by cases hx
  | y :: ws, l, h, hp, x, hx => by
    rw [apl_cons]
    rcases List.mem_cons.1 hx with rfl | hx
    · rw [apl_look_no ws (stepW_srt h n x) _ (fun z hz => ((List.pairwise_cons.1 hp).1 z hz).symm), stepW_look h, if_pos rfl]
    · exact apl_look ws (stepW_srt h n y) (List.pairwise_cons.1 hp).2 x hx
theorem count_sides (f : Pr → Bool) (k : Key) : ∀ l : List Pr, l.countP (fun a => f a && decide (a.key < k)) + l.countP (fun a => f a && decide (k < a.key)) = l.countP (fun a => f a && !decide (a.key = k))
  | [] => rfl
  | a :: l => by
    have ih := count_sides f k l
    simp only [List.countP_cons]
    rcases lt_tri a.key k with h | h | h
    · have h1 : ¬ k < a.key := lt_asy h
      have h2 : ¬ a.key = k := fun e => lt_irr k (by rw [e] at h; exact h)
      cases f a <;> simp [h, h1, h2] <;> omega
    · have h1 : ¬ k < a.key := fun e => lt_irr k (by rw [h] at e; exact e)
      have h2 : ¬ a.key < k := fun e => lt_irr k (by rw [h] at e; exact e)
      cases f a <;> simp [h, lt_irr] <;> omega
    · have h1 : ¬ a.key < k := lt_asy h
      have h2 : ¬ a.key = k := fun e => lt_irr k (by rw [e] at h; exact h)
      cases f a <;> simp [h, h1, h2] <;> omega
theorem count_del (f : Pr → Bool) (l : List Pr) (k : Key) : (del l k).countP f = l.countP (fun a => f a && !decide (a.key = k)) := by
  unfold del
  rw [List.countP_append, List.countP_filter, List.countP_filter, count_sides]
theorem count_ins (f : Pr → Bool) (l : List Pr) (p : Pr) : (ins l p).countP f = l.countP (fun a => f a && !decide (a.key = p.key)) + (if f p = true then 1 else 0) := by
  unfold ins
  rw [List.countP_append, List.countP_cons, List.countP_filter, List.countP_filter, ← count_sides]
  omega
/-- How many keys there are behind a batch. -/
theorem apl_count {n : Nat} : ∀ (ws : List Wr) (l : List Pr), ws.Pairwise (fun a b => a.key ≠ b.key) → (apl l n ws).length = l.countP (fun p => !named ws p.key) + ws.countP (fun x => !x.drop)
  | [], l, _ => by simp [apl, named]
  | x :: ws, l, hp => by
    rw [apl_cons, apl_count ws _ (List.pairwise_cons.1 hp).2, List.countP_cons]
    have h1 : named ws x.key = false := by
      rw [Bool.eq_false_iff]
      intro h
      obtain ⟨y, h2, h3⟩ := named_iff.1 h
      exact (List.pairwise_cons.1 hp).1 y h2 h3.symm
    have h2 : l.countP (fun p => !named (x :: ws) p.key) = l.countP (fun a => !named ws a.key && !decide (a.key = x.key)) := by
      apply List.countP_congr
      intro a _
      rw [named_cons]
      by_cases e : a.key = x.key
      · have e2 : x.key = a.key := e.symm
        simp [e]
      · have e2 : ¬ x.key = a.key := fun h => e h.symm
        simp [e, e2]
    rw [h2]
    unfold stepW
    cases hd : x.drop with
    | true => rw [if_pos rfl, count_del]; simp
    | false => rw [if_neg (by decide), count_ins]; simp [h1]; omega
/-- Versions behind a commit. -/
theorem commit_vers {S : St} {n : Int} {B : Nat} (h : SInv S n B) (hok : D.Ok S.L.d) (hB : B < 4294967290) (ws : List Wr) {T : St} {nn : Nat} {cc : Int} (hR : (T, nn, cc) = commit S ws) :
    S.num ≤ T.num ∧ ∀ p ∈ T.l, p.ver ≤ T.num ∧ 1 ≤ p.ver ∧ (p.ver = verOf S.l p.key ∨ (named ws p.key = true ∧ cc = 0 ∧ p.ver = nn ∧ S.num < nn)) := by
  have same : T = S → S.num ≤ T.num ∧ ∀ p ∈ T.l, p.ver ≤ T.num ∧ 1 ≤ p.ver ∧ (p.ver = verOf S.l p.key ∨ (named ws p.key = true ∧ cc = 0 ∧ p.ver = nn ∧ S.num < nn)) := by
    rintro rfl
    refine ⟨Nat.le_refl _, fun p hp => ⟨(h.pk p hp).ver, h.pos p hp, .inl ?_⟩⟩
    unfold verOf
    rw [look_mem h.srt hp]
    rfl
  cases commit_out h hok hB ws with
  | no c h0 he hw => rw [he] at hR; exact same (Prod.mk.inj hR).1
  | nil hw he => rw [he] at hR; exact same (Prod.mk.inj hR).1
  | yes T' hw hg hb hf he hl hn hi =>
    rw [he] at hR
    obtain ⟨e1, e2⟩ := Prod.mk.inj hR
    obtain ⟨e2, e3⟩ := Prod.mk.inj e2
    subst e1 e2 e3
    refine ⟨by omega, fun p hp => ⟨(hi.pk p hp).ver, hi.pos p hp, ?_⟩⟩
    have h1 := look_mem hi.srt hp
    cases hnm : named ws p.key with
    | true =>
      obtain ⟨y, h2, h3⟩ := named_iff.1 hnm
      have h4 := apl_look (n := S.num + 1) ws h.srt hg.two y h2
      rw [← hl, h3, h1] at h4
      split at h4
      · cases h4
      · have h5 := congrArg Pr.ver (Option.some.inj h4)
        exact .inr ⟨rfl, rfl, h5, Nat.lt_succ_self _⟩
    | false =>
      have h4 := apl_look_no (n := S.num + 1) ws h.srt p.key (fun y hy e => by rw [named_iff.2 ⟨y, hy, e⟩] at hnm; cases hnm)
      rw [← hl, h1] at h4
      left
      unfold verOf
      rw [← h4]
      rfl
end S6
end Go.Proofs.Ytnjfioikpajhlaa
