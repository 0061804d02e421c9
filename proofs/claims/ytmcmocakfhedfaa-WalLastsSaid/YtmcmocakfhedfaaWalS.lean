/- The plain law of the log: a live log, and what a crash leaves of a new generation. -/
import Derived.Test.YtmcmocakfhedfaaWalR
namespace Go.Proofs.Ytmcmocakfhedfaa
open Go.RowKit

namespace W5
structure Live (d : D.Dsk) (g : Nat) (recs : List (List UInt8)) : Prop where
  n4 : 4 ≤ d.n
  wait : d.wait = []
  down : d.down = false
  hd : D.sector d ((g % 2 : Nat) : Int) = head g
  tb : Tb d g
  pc : Pc d (areaAt d g) g recs
  fit : used recs ≤ area d
  len : ∀ b ∈ recs, b.length ≤ 8192
  fresh : ∀ j, used recs ≤ j → j < area d → ∀ k, recs.length ≤ k → k < 4294967296 → ∀ i b, D.sector d ((areaAt d g + j : Nat) : Int) ≠ piece g k i b
  g32 : g < 4294967296
theorem Live.cur {d : D.Dsk} {g : Nat} {recs : List (List UInt8)} (h : Live d g recs) : current d = (g, true) := current_live h.n4 h.g32 h.hd h.tb
theorem Live.next {d : D.Dsk} {g : Nat} {recs : List (List UInt8)} (h : Live d g recs) : following d g = g + 1 := following_live (by have := h.n4; omega) h.tb
theorem Live.none {d : D.Dsk} {g : Nat} {recs : List (List UInt8)} (h : Live d g recs) (hok : D.Ok d) : nextR d g recs.length (used recs) = none := by
  have hl := len_le_used recs
  have hf := h.fit
  have ha := area_le d hok.n2
  cases hn : nextR d g recs.length (used recs) with
  | none => rfl
  | some b =>
    obtain ⟨h1, h2⟩ := nextR_some hok hn
    have hp := need_pos b.length
    have h3 := nextR_fits hok hn 0 hp
    exact absurd h3 (h.fresh (used recs) (Nat.le_refl _) (by omega) recs.length (Nat.le_refl _) (by omega) 0 b)
theorem Live.list {d : D.Dsk} {g : Nat} {recs : List (List UInt8)} (h : Live d g recs) (hok : D.Ok d) : list d = recs := by
  unfold W5.list
  rw [h.cur, if_pos rfl]
  exact read_back h.len h.fit h.pc (h.none hok)
theorem area_same {d R : D.Dsk} (h : R.n = d.n) : area R = area d := by unfold area; rw [h]
theorem areaAt_same {d R : D.Dsk} (h : R.n = d.n) (g : Nat) : areaAt R g = areaAt d g := by unfold areaAt; rw [area_same h]
theorem nextB_congr {d R : D.Dsk} (s n : Nat) : ∀ k, (∀ i, i < k → D.sector R ((s + i : Nat) : Int) = D.sector d ((s + i : Nat) : Int)) → nextB R s n k = nextB d s n k
  | 0, _ => rfl
  | k + 1, h => by
    show nextB R s n k ++ _ = nextB d s n k ++ _
    rw [nextB_congr s n k (fun i hi => h i (by omega)), h k (by omega)]
theorem nextR_congr {d R : D.Dsk} (hn : R.n = d.n) {g : Nat} (h : ∀ j, j < area d → D.sector R ((areaAt d g + j : Nat) : Int) = D.sector d ((areaAt d g + j : Nat) : Int)) (k at_ : Nat) : nextR R g k at_ = nextR d g k at_ := by
  unfold nextR
  rw [area_same hn, areaAt_same hn]
  by_cases h1 : area d ≤ at_
  · rw [if_pos h1, if_pos h1]
  · rw [if_neg h1, if_neg h1, h at_ (by omega)]
    by_cases h2 : 8192 < size4 (D.sector d ((areaAt d g + at_ : Nat) : Int)) ∨ area d - at_ < need (size4 (D.sector d ((areaAt d g + at_ : Nat) : Int)))
    · rw [if_pos h2, if_pos h2]
    · rw [if_neg h2, if_neg h2]
      have h3 : ∀ i, i < need (size4 (D.sector d ((areaAt d g + at_ : Nat) : Int))) → D.sector R ((areaAt d g + at_ + i : Nat) : Int) = D.sector d ((areaAt d g + at_ + i : Nat) : Int) := by
        intro i hi
        have := h (at_ + i) (by omega)
        rw [← Nat.add_assoc] at this
        exact this
      rw [nextB_congr _ _ _ h3]
      have h4 : ∀ b, fits R g k (areaAt d g + at_) b (need (size4 (D.sector d ((areaAt d g + at_ : Nat) : Int)))) = fits d g k (areaAt d g + at_) b (need (size4 (D.sector d ((areaAt d g + at_ : Nat) : Int)))) := by
        intro b
        unfold fits
        refine decide_eq_decide.2 ⟨fun q i hi => (h3 i hi).symm.trans (q i hi), fun q i hi => (h3 i hi).trans (q i hi)⟩
      rw [h4]
theorem readF_congr {d R : D.Dsk} (hn : R.n = d.n) {g : Nat} (h : ∀ j, j < area d → D.sector R ((areaAt d g + j : Nat) : Int) = D.sector d ((areaAt d g + j : Nat) : Int)) : ∀ f k at_, readF R g f k at_ = readF d g f k at_
  | 0, _, _ => rfl
  | f + 1, k, at_ => by
    have e := nextR_congr hn h k at_
    cases hx : nextR d g k at_ with
    | none => rw [readF_none hx, readF_none (e.trans hx)]
    | some b => rw [readF_some hx, readF_some (e.trans hx), readF_congr hn h f]
theorem current_congr {d R : D.Dsk} (h0 : D.sector R ((0 : Nat) : Int) = D.sector d ((0 : Nat) : Int)) (h1 : D.sector R ((1 : Nat) : Int) = D.sector d ((1 : Nat) : Int)) : current R = current d := by
  have e : ∀ x : D.Dsk, current x = curStep x (curStep x (0, false) 0) 1 := fun _ => rfl
  have c0 : ∀ p, curStep R p 0 = curStep d p 0 := fun p => by unfold curStep; rw [h0]
  have c1 : ∀ p, curStep R p 1 = curStep d p 1 := fun p => by unfold curStep; rw [h1]
  rw [e, e, c0, c1]
theorem areaAt_ge (d : D.Dsk) (g : Nat) : 2 ≤ areaAt d g := Nat.le_add_right 2 _
theorem apart {d : D.Dsk} {g N : Nat} (h : g % 2 ≠ N % 2) (j : Nat) (hj : j < area d) : areaAt d g + j < areaAt d N ∨ areaAt d N + area d ≤ areaAt d g + j := by
  have e : ∀ g, areaAt d g = 2 + g % 2 * area d := fun _ => rfl
  rw [e, e]
  rcases Nat.mod_two_eq_zero_or_one g with a | a <;> rcases Nat.mod_two_eq_zero_or_one N with b | b <;> rw [a, b] at h ⊢ <;> first | exact absurd rfl h | omega
/-- An image that differs from d but in the area of N, and there by pieces of N alone. -/
structure Mid (d R : D.Dsk) (N : Nat) : Prop where
  n : R.n = d.n
  out : ∀ i : Nat, D.sector R (i : Int) = D.sector d (i : Int) ∨ ((areaAt d N ≤ i ∧ i < areaAt d N + area d) ∧ ∃ k j b, D.sector R (i : Int) = piece N k j b)
theorem Mid.same {d R : D.Dsk} {N : Nat} (h : Mid d R N) (i : Nat) (hi : i < areaAt d N ∨ areaAt d N + area d ≤ i) : D.sector R (i : Int) = D.sector d (i : Int) := by
  rcases h.out i with h | ⟨h, _⟩
  · exact h
  · omega
theorem Mid.cur {d R : D.Dsk} {N : Nat} (h : Mid d R N) : current R = current d := by
  have := areaAt_ge d N
  exact current_congr (h.same 0 (by omega)) (h.same 1 (by omega))
theorem Mid.list {d R : D.Dsk} {N : Nat} (h : Mid d R N) (hp : (current d).2 = true → (current d).1 % 2 ≠ N % 2) : list R = list d := by
  unfold W5.list
  rw [h.cur]
  split
  · rename_i h2
    unfold read
    rw [area_same h.n]
    exact readF_congr h.n (fun j hj => h.same _ (apart (hp h2) j hj)) _ _ _
  · rfl
theorem Mid.tb {d R : D.Dsk} {N B : Nat} (h : Mid d R N) (hN : N < 4294967296) (ht : Tb d B) (hB : B ≤ N) : Tb R N := by
  intro i hi ht2
  rcases h.out i with h2 | ⟨_, k, j, b, h2⟩
  · rw [h2] at ht2 ⊢
    exact Nat.le_trans (ht i (by rw [← h.n]; exact hi) ht2) hB
  · rw [h2, piece_told _ _ _ _ hN]
    exact Nat.le_refl _
theorem allP_mem (gen : Nat) (ls : List (List UInt8)) : ∀ k, ∀ c ∈ allP gen ls k, ∃ r j b, c = piece gen r j b
  | 0, c, h => by cases h
  | k + 1, c, h => by
    rcases List.mem_append.1 h with h | h
    · exact allP_mem gen ls k c h
    · unfold recP at h
      obtain ⟨i, _, rfl⟩ := List.mem_map.1 h
      exact ⟨_, _, _, rfl⟩

/-- What a beginning leaves. -/
def BegOut (d : D.Dsk) (N : Nat) (P : List (List UInt8)) (X : D.Dsk) (e : Int) : Prop :=
  X.n = d.n ∧
  ((e = 0 ∧ X.down = false ∧ X.armed = d.armed ∧ X.wait = [] ∧ X.safe = D.over (D.over d.safe (ents (areaAt d N) P)) [(((N % 2 : Nat) : Int), head N)]) ∨
   (e = 3 ∧ X.down = true ∧ d.armed = true ∧ ((X.safe = d.safe ∧ ∃ m, X.wait = ents (areaAt d N) (P.take m)) ∨ (X.safe = D.over d.safe (ents (areaAt d N) P) ∧ (X.wait = [] ∨ X.wait = [(((N % 2 : Nat) : Int), head N)])))))
theorem begin_out {d : D.Dsk} (hn : 4 ≤ d.n) (hd : d.down = false) (hw : d.wait = []) (N : Nat) (ls : List (List UInt8)) (hu : used ls ≤ area d) : BegOut d N (allP N ls ls.length) (begin_ d N ls).1 (begin_ d N ls).2 := by
  have hr := begTo_run hd N ls hu ls.length (Nat.le_refl _)
  unfold begin_
  generalize hx : begTo d N ls ls.length = x at *
  obtain ⟨x, e⟩ := x
  simp only at hr ⊢
  obtain ⟨r1, r2, m, r3, r4, r5⟩ := hr
  rw [hw, List.nil_append] at r4
  by_cases h0 : e = 0
  · rw [if_pos h0]
    rcases r5 with ⟨_, rfl, r6, r7⟩ | ⟨r6, _⟩
    · rw [List.take_length] at r4
      obtain ⟨f1, f2⟩ := fl_spec x
      rcases f2 with ⟨f2, f3, f4, f5, f6⟩ | ⟨f2, f3, f4, f5, f6⟩
      · rw [if_pos f2]
        have hmod : N % 2 < 2 := Nat.mod_lt _ (by decide)
        obtain ⟨w1, w2, w3, w4⟩ := wr_spec (d := D.flush x) ((N % 2 : Nat) : Int) (head N) (by omega) (by rw [f1, r2]; omega) (head_len N) f5
        rw [f4, List.nil_append] at w1
        rw [f3, r1, r4] at w2
        rcases w4 with ⟨w4, w5, w6⟩ | ⟨w4, w5, w6⟩
        · rw [if_pos w4]
          obtain ⟨g1, g2⟩ := fl_spec (D.write (D.flush x) ((N % 2 : Nat) : Int) (head N))
          refine ⟨by rw [g1, w3, f1, r2], ?_⟩
          rcases g2 with ⟨g2, g3, g4, g5, g6⟩ | ⟨g2, g3, g4, g5, g6⟩
          · refine .inl ⟨g2, g5, by rw [g6, w6, f6, r7], g4, ?_⟩
            rw [g3, w1, w2]
          · refine .inr ⟨g2, g5, ?_, .inr ⟨by rw [g3, w2], .inr (by rw [g4, w1])⟩⟩
            rcases g6 with g6 | g6
            · rw [← r7, ← f6, ← w6]; exact g6
            · rw [w5] at g6; cases g6
        · rw [if_neg (by rw [w4]; decide)]
          exact ⟨by simp only; rw [w3, f1, r2], .inr ⟨w4, w5, by rw [← r7, ← f6]; exact w6, .inr ⟨w2, .inr w1⟩⟩⟩
      · rw [if_neg (by rw [f2]; decide)]
        refine ⟨by simp only; rw [f1, r2], .inr ⟨f2, f5, ?_, .inl ⟨by rw [f3, r1], (allP N ls ls.length).length, by rw [f4, r4, List.take_length]⟩⟩⟩
        rcases f6 with f6 | f6
        · rw [← r7]; exact f6
        · rw [r6] at f6; cases f6
    · rw [h0] at r6; cases r6
  · rw [if_neg h0]
    refine ⟨r2, ?_⟩
    rcases r5 with ⟨r6, _⟩ | ⟨r6, r7, r8⟩
    · exact absurd r6 h0
    · exact .inr ⟨r6, r7, r8, .inl ⟨r1, m, r4⟩⟩
theorem kept_nil (ks : List Bool) : D.kept [] ks = [] := by cases ks <;> rfl
theorem img_mid {d R : D.Dsk} (hw : d.wait = []) {N : Nat} (ls : List (List UInt8)) (hu : used ls ≤ area d) (hn : R.n = d.n) (hRw : R.wait = []) (m : Nat) (ks : List Bool)
    (h : R.safe = D.over d.safe (D.kept (ents (areaAt d N) ((allP N ls ls.length).take m)) ks) ∨ R.safe = D.over d.safe (ents (areaAt d N) (allP N ls ls.length))) : Mid d R N := by
  have hl := allP_len N ls ls.length (Nat.le_refl _)
  rw [usedTo_all] at hl
  refine ⟨hn, fun i => ?_⟩
  rw [sector_img hw, sector_img hRw]
  rcases h with h | h
  · rcases over_kept d.safe (areaAt d N) ((allP N ls ls.length).take m) ks i with h2 | ⟨h2, h3⟩
    · left; unfold img; rw [h, h2]
    · right
      have h4 := h2.2
      rw [List.length_take] at h4
      refine ⟨by omega, ?_⟩
      obtain ⟨r, j, b, e⟩ := allP_mem N ls ls.length _ (List.mem_of_mem_take (List.getElem_mem (l := (allP N ls ls.length).take m) (n := i - areaAt d N) (by omega)))
      exact ⟨r, j, b, by unfold img; rw [h, h3]; exact e⟩
  · have h2 := over_ents d.safe (areaAt d N) (allP N ls ls.length) i
    by_cases h3 : areaAt d N ≤ i ∧ i < areaAt d N + (allP N ls ls.length).length
    · rw [dif_pos h3] at h2
      right
      refine ⟨by omega, ?_⟩
      obtain ⟨r, j, b, e⟩ := allP_mem N ls ls.length _ (List.getElem_mem (l := allP N ls ls.length) (n := i - areaAt d N) (by omega))
      exact ⟨r, j, b, by unfold img; rw [h, h2]; exact e⟩
    · rw [dif_neg h3] at h2
      left; unfold img; rw [h, h2]
theorem img_full {d R : D.Dsk} (hn4 : 4 ≤ d.n) (hw : d.wait = []) {N : Nat} (hN : 1 ≤ N) (hN2 : N < 4294967296) (ht : Tb d (N - 1)) (ls : List (List UInt8)) (hlen : ∀ b ∈ ls, b.length ≤ 8192) (hu : used ls ≤ area d) (hn : R.n = d.n) (hRw : R.wait = []) (hRd : R.down = false)
    (h : R.safe = D.over (D.over d.safe (ents (areaAt d N) (allP N ls ls.length))) [(((N % 2 : Nat) : Int), head N)]) : Live R N ls := by
  have hl := allP_len N ls ls.length (Nat.le_refl _)
  rw [usedTo_all] at hl
  have hge := areaAt_ge d N
  have hm2 : N % 2 < 2 := Nat.mod_lt _ (by decide)
  have hs : ∀ i : Nat, D.sector R (i : Int) = if i = N % 2 then head N else if h3 : areaAt d N ≤ i ∧ i < areaAt d N + (allP N ls ls.length).length then (allP N ls ls.length)[i - areaAt d N]'(by omega) else D.sector d (i : Int) := by
    intro i
    rw [sector_img hRw, sector_img hw]
    unfold img
    rw [h, over_one]
    by_cases h1 : i = N % 2
    · rw [if_pos h1, if_pos (by omega)]; rfl
    · rw [if_neg h1, if_neg (by omega), over_ents]
      by_cases h3 : areaAt d N ≤ i ∧ i < areaAt d N + (allP N ls ls.length).length
      · rw [dif_pos h3, dif_pos h3]; rfl
      · rw [dif_neg h3, dif_neg h3]
  refine ⟨by rw [hn]; exact hn4, hRw, hRd, ?_, ?_, ?_, by rw [area_same hn]; exact hu, hlen, ?_, hN2⟩
  · rw [hs, if_pos rfl]
  · intro i hi htl
    rw [hs] at htl ⊢
    split
    · rw [head_told _ hN2]; exact Nat.le_refl _
    · rename_i h1
      rw [if_neg h1] at htl
      split
      · rename_i h3
        obtain ⟨r, j, b, e⟩ := allP_mem N ls ls.length _ (List.getElem_mem (l := allP N ls ls.length) (n := i - areaAt d N) (by omega))
        rw [e, piece_told _ _ _ _ hN2]; exact Nat.le_refl _
      · rename_i h3
        rw [dif_neg h3] at htl
        have := ht i (by rw [← hn]; exact hi) htl
        omega
  · intro k hk i hi
    obtain ⟨h1, h2⟩ := allP_get N ls ls.length (Nat.le_refl _) k hk i hi
    rw [areaAt_same hn, hs, if_neg (by omega), dif_pos (by omega)]
    rw [← h2]
    congr 1
    omega
  · intro j hj1 hj2 k _ _ i b e
    rw [area_same hn] at hj2
    have ha := areaAt_le d N
    have han := area_n d
    rw [areaAt_same hn, hs, if_neg (by omega), dif_neg (by omega)] at e
    have h1 := ht (areaAt d N + j) (by omega) (by rw [e]; exact piece_tells _ _ _ _)
    rw [e, piece_told _ _ _ _ hN2] at h1
    omega
/-- A new generation is begun: it lives, or the power went off, and whatever is kept the records are those from ahead or the new ones. -/
theorem begin_law {d : D.Dsk} (hn4 : 4 ≤ d.n) (hd : d.down = false) (hw : d.wait = []) {N : Nat} (hN : 1 ≤ N) (hN2 : N < 4294967296) (ht : Tb d (N - 1)) (hp : (current d).2 = true → (current d).1 % 2 ≠ N % 2) (ls : List (List UInt8)) (hlen : ∀ b ∈ ls, b.length ≤ 8192) (hu : used ls ≤ area d) :
    ((begin_ d N ls).2 = 0 ∧ Live (begin_ d N ls).1 N ls ∧ (begin_ d N ls).1.n = d.n ∧ (begin_ d N ls).1.armed = d.armed) ∨
    ((begin_ d N ls).2 = 3 ∧ (begin_ d N ls).1.down = true ∧ d.armed = true ∧ (begin_ d N ls).1.n = d.n ∧ ∀ ks, ((current (D.restart (begin_ d N ls).1 ks) = current d ∧ list (D.restart (begin_ d N ls).1 ks) = list d) ∨ Live (D.restart (begin_ d N ls).1 ks) N ls) ∧ Tb (D.restart (begin_ d N ls).1 ks) N) := by
  have ho := begin_out hn4 hd hw N ls hu
  generalize begin_ d N ls = X at *
  obtain ⟨X, e⟩ := X
  obtain ⟨o1, o2⟩ := ho
  simp only at o1 o2 ⊢
  rcases o2 with ⟨o2, o3, o4, o5, o6⟩ | ⟨o2, o3, o4, o5⟩
  · exact .inl ⟨o2, img_full hn4 hw hN hN2 ht ls hlen hu o1 o5 o3 o6, o1, o4⟩
  · refine .inr ⟨o2, o3, o4, o1, fun ks => ?_⟩
    have hfull : (D.restart X ks).safe = D.over (D.over d.safe (ents (areaAt d N) (allP N ls ls.length))) [(((N % 2 : Nat) : Int), head N)] → ((current (D.restart X ks) = current d ∧ list (D.restart X ks) = list d) ∨ Live (D.restart X ks) N ls) ∧ Tb (D.restart X ks) N := by
      intro h
      have hl := img_full hn4 hw hN hN2 ht ls hlen hu (R := D.restart X ks) o1 rfl rfl h
      exact ⟨.inr hl, hl.tb⟩
    have hmid : ∀ m ks', ((D.restart X ks).safe = D.over d.safe (D.kept (ents (areaAt d N) ((allP N ls ls.length).take m)) ks') ∨ (D.restart X ks).safe = D.over d.safe (ents (areaAt d N) (allP N ls ls.length))) → ((current (D.restart X ks) = current d ∧ list (D.restart X ks) = list d) ∨ Live (D.restart X ks) N ls) ∧ Tb (D.restart X ks) N := by
      intro m ks' h
      have hm := img_mid (R := D.restart X ks) hw ls hu o1 rfl m ks' h
      exact ⟨.inl ⟨hm.cur, hm.list hp⟩, hm.tb hN2 ht (by omega)⟩
    have hsafe : (D.restart X ks).safe = D.over X.safe (D.kept X.wait ks) := rfl
    rcases o5 with ⟨o5, m, o6⟩ | ⟨o5, o6 | o6⟩
    · exact hmid m ks (.inl (by rw [hsafe, o5, o6]))
    · exact hmid 0 ks (.inr (by rw [hsafe, o5, o6, kept_nil]; rfl))
    · cases ks with
      | nil => exact hmid 0 [] (.inr (by rw [hsafe, o5, o6]; rfl))
      | cons b ks =>
        cases b
        · exact hmid 0 [] (.inr (by rw [hsafe, o5, o6]; show D.over _ (D.kept [] ks) = _; rw [kept_nil]; rfl))
        · exact hfull (by rw [hsafe, o5, o6]; show D.over _ (_ :: D.kept [] ks) = _; rw [kept_nil])
end W5
end Go.Proofs.Ytmcmocakfhedfaa
