/- The plain law of the log: Append, Renew, Open. -/
import Derived.Test.YtmcmocakfhedfaaWalS
namespace Go.Proofs.Ytmcmocakfhedfaa
open Go.RowKit

namespace W5
theorem usedTo_snoc (l : List (List UInt8)) (b : List UInt8) (k : Nat) (h : k ≤ l.length) : usedTo (l ++ [b]) k = usedTo l k := by unfold usedTo; rw [List.take_append_of_le_length h]
theorem usedTo_lt (l : List (List UInt8)) (k i : Nat) (h : k < l.length) (hi : i < need l[k].length) : usedTo l k + i < used l := by
  have h1 := usedTo_succ l k h
  have h2 := usedTo_le l (k + 1)
  omega
theorem app_live {d R : D.Dsk} {g : Nat} {recs : List (List UInt8)} {b : List UInt8} (h : Live d g recs) (hb : b.length ≤ 8192) (hfit : used recs + need b.length ≤ area d) (hn : R.n = d.n) (hRw : R.wait = []) (hRd : R.down = false)
    (hs : ∀ i : Nat, (∃ j, j < need b.length ∧ i = areaAt d g + used recs + j ∧ D.sector R (i : Int) = piece g recs.length j b) ∨ ((i < areaAt d g + used recs ∨ areaAt d g + used recs + need b.length ≤ i) ∧ D.sector R (i : Int) = D.sector d (i : Int))) : Live R g (recs ++ [b]) := by
  have hge := areaAt_ge d g
  have hm2 : g % 2 < 2 := Nat.mod_lt _ (by decide)
  have old : ∀ i : Nat, (i < areaAt d g + used recs ∨ areaAt d g + used recs + need b.length ≤ i) → D.sector R (i : Int) = D.sector d (i : Int) := by
    intro i hi
    rcases hs i with ⟨j, h1, h2, _⟩ | ⟨_, h2⟩
    · omega
    · exact h2
  refine ⟨by rw [hn]; exact h.n4, hRw, hRd, ?_, ?_, ?_, ?_, ?_, ?_, h.g32⟩
  · rw [old _ (by omega)]; exact h.hd
  · intro i hi ht
    rcases hs i with ⟨j, h1, h2, h3⟩ | ⟨_, h2⟩
    · rw [h3, piece_told _ _ _ _ h.g32]; exact Nat.le_refl _
    · rw [h2] at ht ⊢
      exact h.tb i (by rw [← hn]; exact hi) ht
  · intro k hk i hi
    rw [List.length_append] at hk
    rw [areaAt_same hn]
    rcases Nat.lt_or_ge k recs.length with h1 | h1
    · have e : (recs ++ [b])[k]'(by rw [List.length_append]; exact hk) = recs[k] := List.getElem_append_left h1
      rw [e] at hi ⊢
      rw [usedTo_snoc _ _ _ (by omega), old _ (by have := usedTo_lt recs k i h1 hi; omega)]
      exact h.pc k h1 i hi
    · obtain rfl : k = recs.length := by simp at hk; omega
      have e : (recs ++ [b])[recs.length]'(by rw [List.length_append]; exact hk) = b := by simp
      rw [e] at hi ⊢
      rw [usedTo_snoc _ _ _ (Nat.le_refl _), usedTo_all]
      rcases hs (areaAt d g + used recs + i) with ⟨j, h1, h2, h3⟩ | ⟨h2, _⟩
      · obtain rfl : i = j := by omega
        exact h3
      · omega
  · rw [used_snoc, area_same hn]; exact hfit
  · intro x hx
    rcases List.mem_append.1 hx with hx | hx
    · exact h.len x hx
    · obtain rfl := List.mem_singleton.1 hx; exact hb
  · intro j hj1 hj2 k hk1 hk2 i x
    rw [used_snoc] at hj1
    rw [area_same hn] at hj2
    rw [List.length_append] at hk1
    rw [areaAt_same hn, old _ (by omega)]
    exact h.fresh j (by omega) hj2 k (by omega) hk2 i x
theorem app_crash {d R : D.Dsk} {g : Nat} {recs : List (List UInt8)} {b : List UInt8} (h : Live d g recs) (hb : b.length ≤ 8192) (hfit : used recs + need b.length ≤ area d) (hn : R.n = d.n) (hRw : R.wait = []) (hRd : R.down = false) (hok : D.Ok R)
    (hs : ∀ i : Nat, D.sector R (i : Int) = D.sector d (i : Int) ∨ ∃ j, j < need b.length ∧ i = areaAt d g + used recs + j ∧ D.sector R (i : Int) = piece g recs.length j b) : (list R = recs ∨ list R = recs ++ [b]) ∧ current R = (g, true) ∧ Tb R g := by
  have hge := areaAt_ge d g
  have old : ∀ i : Nat, (i < areaAt d g + used recs ∨ areaAt d g + used recs + need b.length ≤ i) → D.sector R (i : Int) = D.sector d (i : Int) := by
    intro i hi
    rcases hs i with h2 | ⟨j, h1, h2, _⟩
    · exact h2
    · omega
  have hcur : current R = (g, true) := (current_congr (old 0 (by omega)) (old 1 (by omega))).trans h.cur
  have htb : Tb R g := by
    intro i hi ht
    rcases hs i with h2 | ⟨j, h1, h2, h3⟩
    · rw [h2] at ht ⊢
      exact h.tb i (by rw [← hn]; exact hi) ht
    · rw [h3, piece_told _ _ _ _ h.g32]; exact Nat.le_refl _
  refine ⟨?_, hcur, htb⟩
  by_cases hall : ∀ j, j < need b.length → D.sector R ((areaAt d g + used recs + j : Nat) : Int) = piece g recs.length j b
  · right
    refine (app_live h hb hfit hn hRw hRd (fun i => ?_)).list hok
    by_cases h1 : i < areaAt d g + used recs ∨ areaAt d g + used recs + need b.length ≤ i
    · exact .inr ⟨h1, old i h1⟩
    · left
      refine ⟨i - (areaAt d g + used recs), by omega, by omega, ?_⟩
      have := hall (i - (areaAt d g + used recs)) (by omega)
      rwa [show areaAt d g + used recs + (i - (areaAt d g + used recs)) = i by omega] at this
  · left
    obtain ⟨j, hj⟩ := Classical.not_forall.1 hall
    obtain ⟨hj1, hj2⟩ := Classical.not_imp.1 hj
    have hlu := len_le_used recs
    have har : area d ≤ 2047 := by rw [← area_same hn]; exact area_le R hok.n2
    have hfr : ∀ j, j < need b.length → D.sector R ((areaAt d g + used recs + j : Nat) : Int) ≠ piece g recs.length j b → ∀ i x, D.sector R ((areaAt d g + used recs + j : Nat) : Int) ≠ piece g recs.length i x := by
      intro j hj1 hj2 i x
      rcases hs (areaAt d g + used recs + j) with h2 | ⟨j', h1, h2, h3⟩
      · rw [h2, Nat.add_assoc]
        exact h.fresh (used recs + j) (by omega) (by omega) recs.length (Nat.le_refl _) (by omega) i x
      · obtain rfl : j = j' := by omega
        exact absurd h3 hj2
    unfold W5.list
    rw [hcur, if_pos rfl]
    show read R g = recs
    refine read_back h.len (by rw [area_same hn]; exact h.fit) ?_ ?_
    · intro k hk i hi
      have := usedTo_lt recs k i hk hi
      rw [areaAt_same hn, old _ (by omega)]
      exact h.pc k hk i hi
    · cases hx : nextR R g recs.length (used recs) with
      | none => rfl
      | some x =>
        exfalso
        have hf := nextR_fits hok hx
        rw [areaAt_same hn] at hf
        have h0 := hf 0 (need_pos _)
        have hnb := need_pos b.length
        by_cases h0b : D.sector R ((areaAt d g + used recs + 0 : Nat) : Int) = piece g recs.length 0 b
        · have hsz := piece_size g recs.length 0 x (nextR_some hok hx).2
          rw [← h0, h0b, piece_size _ _ _ _ hb] at hsz
          exact hfr j hj1 hj2 j x (hf j (by rw [← hsz]; exact hj1))
        · exact hfr 0 hnb h0b 0 x h0
theorem appended_law {d : D.Dsk} {g : Nat} {recs : List (List UInt8)} {b : List UInt8} (cl : Bool) (h : Live d g recs) (hb : b.length ≤ 8192) (hfit : used recs + need b.length ≤ area d) :
    ((appended ⟨d, g, recs, cl⟩ b).2 = 0 ∧ Live (appended ⟨d, g, recs, cl⟩ b).1 g (recs ++ [b]) ∧ (appended ⟨d, g, recs, cl⟩ b).1.n = d.n ∧ (appended ⟨d, g, recs, cl⟩ b).1.armed = d.armed) ∨
    ((appended ⟨d, g, recs, cl⟩ b).2 = 3 ∧ (appended ⟨d, g, recs, cl⟩ b).1.down = true ∧ d.armed = true ∧ (appended ⟨d, g, recs, cl⟩ b).1.n = d.n ∧ ∀ ks, D.Ok (D.restart (appended ⟨d, g, recs, cl⟩ b).1 ks) →
      (list (D.restart (appended ⟨d, g, recs, cl⟩ b).1 ks) = recs ∨ list (D.restart (appended ⟨d, g, recs, cl⟩ b).1 ks) = recs ++ [b]) ∧ current (D.restart (appended ⟨d, g, recs, cl⟩ b).1 ks) = (g, true) ∧ Tb (D.restart (appended ⟨d, g, recs, cl⟩ b).1 ks) g) := by
  have ha := areaAt_le d g
  have han := area_n d
  have hn4 := h.n4
  have hp := need_pos b.length
  have hr := layTo_run h.down g recs.length (areaAt d g + used recs) b (need b.length) (by omega)
  rw [appended_eq]
  have hl : laid ⟨d, g, recs, cl⟩ b = layTo d g recs.length (areaAt d g + used recs) b (need b.length) := rfl
  rw [hl]
  generalize layTo d g recs.length (areaAt d g + used recs) b (need b.length) = x at *
  obtain ⟨x, e⟩ := x
  obtain ⟨r1, r2, m, r3, r4, r5⟩ := hr
  rw [h.wait, List.nil_append] at r4
  simp only at r1 r2 r4 r5 ⊢
  have crash : ∀ X : D.Dsk, X.safe = d.safe → X.n = d.n → X.wait = ents (areaAt d g + used recs) ((recP g recs.length b (need b.length)).take m) → ∀ ks, D.Ok (D.restart X ks) →
      (list (D.restart X ks) = recs ∨ list (D.restart X ks) = recs ++ [b]) ∧ current (D.restart X ks) = (g, true) ∧ Tb (D.restart X ks) g := by
    intro X q1 q2 q3 ks hok
    refine app_crash (R := D.restart X ks) h hb hfit q2 rfl rfl hok (fun i => ?_)
    rw [sector_img (show (D.restart X ks).wait = [] from rfl), sector_img h.wait]
    have hsafe : (D.restart X ks).safe = D.over X.safe (D.kept X.wait ks) := rfl
    rcases over_kept d.safe (areaAt d g + used recs) ((recP g recs.length b (need b.length)).take m) ks i with h2 | ⟨h2, h3⟩
    · left; unfold img; rw [hsafe, q1, q3, h2]
    · right
      have h4 := h2.2
      rw [List.length_take, recP_len] at h4
      refine ⟨i - (areaAt d g + used recs), by omega, by omega, ?_⟩
      unfold img
      rw [hsafe, q1, q3, h3, Option.getD_some, List.getElem_take, recP_get]
  by_cases h0 : e = 0
  · rw [if_pos h0]
    rcases r5 with ⟨_, rfl, r6, r7⟩ | ⟨r6, _⟩
    · obtain ⟨f1, f2⟩ := fl_spec x
      rcases f2 with ⟨f2, f3, f4, f5, f6⟩ | ⟨f2, f3, f4, f5, f6⟩
      · refine .inl ⟨f2, app_live h hb hfit (f1.trans r2) f4 f5 (fun i => ?_), f1.trans r2, f6.trans r7⟩
        rw [sector_img f4, sector_img h.wait]
        have h2 := over_ents d.safe (areaAt d g + used recs) (recP g recs.length b (need b.length)) i
        rw [List.take_length] at r4
        by_cases h3 : areaAt d g + used recs ≤ i ∧ i < areaAt d g + used recs + (recP g recs.length b (need b.length)).length
        · rw [dif_pos h3, recP_get] at h2
          rw [recP_len] at h3
          refine .inl ⟨i - (areaAt d g + used recs), by omega, by omega, ?_⟩
          unfold img
          rw [f3, r1, r4, h2]; rfl
        · rw [dif_neg h3] at h2
          rw [recP_len] at h3
          refine .inr ⟨by omega, ?_⟩
          unfold img
          rw [f3, r1, r4, h2]
      · refine .inr ⟨f2, f5, ?_, f1.trans r2, crash _ (f3.trans r1) (f1.trans r2) (f4.trans r4)⟩
        rcases f6 with f6 | f6
        · rw [← r7]; exact f6
        · rw [r6] at f6; cases f6
    · rw [h0] at r6; cases r6
  · rw [if_neg h0]
    rcases r5 with ⟨r6, _⟩ | ⟨r6, r7, r8⟩
    · exact absurd r6 h0
    · exact .inr ⟨r6, r7, r8, r2, crash x r1 r2 r4⟩
/-- Append to a live log: refused; or done; or the power went off. -/
theorem append_law {d : D.Dsk} {g : Nat} {recs : List (List UInt8)} (h : Live d g recs) (b : List UInt8) :
    ((append ⟨d, g, recs, false⟩ b).1 = ⟨d, g, recs, false⟩ ∧ ((append ⟨d, g, recs, false⟩ b).2 = 2 ∨ (append ⟨d, g, recs, false⟩ b).2 = 6)) ∨
    ((append ⟨d, g, recs, false⟩ b).2 = 0 ∧ ∃ X, (append ⟨d, g, recs, false⟩ b).1 = ⟨X, g, recs ++ [b], false⟩ ∧ Live X g (recs ++ [b]) ∧ X.n = d.n ∧ X.armed = d.armed) ∨
    ((append ⟨d, g, recs, false⟩ b).2 = 3 ∧ d.armed = true ∧ ∃ X, (append ⟨d, g, recs, false⟩ b).1 = ⟨X, g, recs, true⟩ ∧ X.down = true ∧ X.n = d.n ∧ ∀ ks, D.Ok (D.restart X ks) → (list (D.restart X ks) = recs ∨ list (D.restart X ks) = recs ++ [b]) ∧ current (D.restart X ks) = (g, true) ∧ Tb (D.restart X ks) g) := by
  rw [append_eq, if_neg (by decide)]
  by_cases h1 : 8192 < b.length
  · rw [if_pos h1]; exact .inl ⟨rfl, .inl rfl⟩
  · rw [if_neg h1]
    by_cases h2 : area d < used recs + need b.length
    · rw [if_pos h2]; exact .inl ⟨rfl, .inr rfl⟩
    · rw [if_neg h2]
      right
      rcases appended_law false h (by omega : b.length ≤ 8192) (by omega) with ⟨a1, a2, a3, a4⟩ | ⟨a1, a2, a3, a4, a5⟩
      · left
        rw [if_pos a1]
        exact ⟨rfl, _, rfl, a2, a3, a4⟩
      · right
        rw [if_neg (by rw [a1]; decide)]
        exact ⟨a1, a3, _, rfl, a2, a4, a5⟩
theorem cur_le {d : D.Dsk} {B : Nat} (hn : 4 ≤ d.n) (ht : Tb d B) : (current d).1 ≤ B := by
  have e : current d = curStep d (curStep d (0, false) 0) 1 := rfl
  have t0 : tells (D.sector d ((0 : Nat) : Int)) = true → told (D.sector d ((0 : Nat) : Int)) ≤ B := ht 0 (by omega)
  have t1 : tells (D.sector d ((1 : Nat) : Int)) = true → told (D.sector d ((1 : Nat) : Int)) ≤ B := ht 1 (by omega)
  have h0 : (curStep d (0, false) 0).1 ≤ B := by
    unfold curStep
    split
    · rename_i hc
      have hb := head_tells (told (D.sector d ((0 : Nat) : Int)))
      rw [← hc.2.1] at hb
      exact t0 hb
    · exact Nat.zero_le _
  rw [e]
  generalize curStep d (0, false) 0 = x at *
  unfold curStep
  split
  · rename_i hc
    have hb := head_tells (told (D.sector d ((1 : Nat) : Int)))
    rw [← hc.2.1] at hb
    exact t1 hb
  · exact h0
/-- Renew of a live log. -/
theorem renew_law {d : D.Dsk} {g : Nat} {recs : List (List UInt8)} (h : Live d g recs) (hok : D.Ok d) (hg : g < 4294967295) (ls : List (List UInt8)) :
    ((renew ⟨d, g, recs, false⟩ ls).1 = ⟨d, g, recs, false⟩ ∧ ((renew ⟨d, g, recs, false⟩ ls).2 = 2 ∨ (renew ⟨d, g, recs, false⟩ ls).2 = 6)) ∨
    ((renew ⟨d, g, recs, false⟩ ls).2 = 0 ∧ ∃ X, (renew ⟨d, g, recs, false⟩ ls).1 = ⟨X, g + 1, ls, false⟩ ∧ Live X (g + 1) ls ∧ X.n = d.n ∧ X.armed = d.armed) ∨
    ((renew ⟨d, g, recs, false⟩ ls).2 = 3 ∧ d.armed = true ∧ ∃ X, (renew ⟨d, g, recs, false⟩ ls).1 = ⟨X, g, recs, true⟩ ∧ X.down = true ∧ X.n = d.n ∧ ∀ ks, D.Ok (D.restart X ks) → (list (D.restart X ks) = recs ∨ list (D.restart X ks) = ls) ∧ ((current (D.restart X ks)).2 = true ∧ g ≤ (current (D.restart X ks)).1) ∧ Tb (D.restart X ks) (g + 1)) := by
  rw [renew_eq, if_neg (by decide)]
  by_cases h1 : ls.any (fun b => decide (8192 < b.length)) = true
  · rw [if_pos h1]; exact .inl ⟨rfl, .inl rfl⟩
  · rw [if_neg h1]
    by_cases h2 : area d < used ls
    · rw [if_pos h2]; exact .inl ⟨rfl, .inr rfl⟩
    · rw [if_neg h2, if_neg (by omega)]
      right
      have hlen : ∀ b ∈ ls, b.length ≤ 8192 := by
        intro b hb
        rcases Nat.lt_or_ge 8192 b.length with h3 | h3
        · exact absurd (List.any_eq_true.2 ⟨b, hb, decide_eq_true h3⟩) h1
        · exact h3
      unfold renewI
      rcases begin_law h.n4 h.down h.wait (N := g + 1) (by omega) (by omega) h.tb (by rw [h.cur]; intro _; simp only; omega) ls hlen (by omega) with ⟨a1, a2, a3, a4⟩ | ⟨a1, a2, a3, a4, a5⟩
      · left
        rw [if_pos a1]
        exact ⟨rfl, _, rfl, a2, a3, a4⟩
      · right
        rw [if_neg (by rw [a1]; decide)]
        refine ⟨a1, a3, _, rfl, a2, a4, fun ks hok2 => ?_⟩
        obtain ⟨b1, b2⟩ := a5 ks
        rcases b1 with ⟨c1, c2⟩ | c1
        · exact ⟨.inl (c2.trans (h.list hok)), by rw [c1, h.cur]; exact ⟨rfl, Nat.le_refl _⟩, b2⟩
        · exact ⟨.inr (c1.list hok2), by rw [c1.cur]; exact ⟨rfl, Nat.le_succ _⟩, b2⟩
/-- Open of a disk on which no write waits. -/
theorem open_law {d : D.Dsk} (hn4 : 4 ≤ d.n) (hd : d.down = false) (hw : d.wait = []) (hok : D.Ok d) {B : Nat} (hB : B + 2 < 4294967295) (ht : Tb d B) :
    ((open_ d).2 = 0 ∧ ∃ X N, (open_ d).1 = ⟨X, N, list d, false⟩ ∧ Live X N (list d) ∧ N = following d (current d).1 ∧ (current d).1 < N ∧ N ≤ B + 2 ∧ X.n = d.n ∧ X.armed = d.armed) ∨
    ((open_ d).2 = 3 ∧ d.armed = true ∧ (open_ d).1.d.down = true ∧ (open_ d).1.d.n = d.n ∧ ∀ ks, D.Ok (D.restart (open_ d).1.d ks) → list (D.restart (open_ d).1.d ks) = list d ∧ Tb (D.restart (open_ d).1.d ks) (B + 2) ∧
      ((current d).2 = true → (current (D.restart (open_ d).1.d ks)).2 = true ∧ (current d).1 ≤ (current (D.restart (open_ d).1.d ks)).1)) := by
  obtain ⟨f1, f2, f3, f4⟩ := following_spec d (current d).1 B (by omega) (cur_le hn4 ht) ht
  obtain ⟨u1, u2⟩ := list_used hok
  have e : open_ d = renewI d (following d (current d).1 - 1) [] (begin_ d (following d (current d).1) (list d)) (list d) := by
    unfold open_
    rw [if_neg (by omega), if_neg (by rw [hd]; decide), if_neg (by omega)]
    unfold opened
    rw [renew_eq, if_neg (by decide), if_neg, if_neg (by omega), if_neg (by omega), show following d (current d).1 - 1 + 1 = following d (current d).1 by omega]
    intro h
    obtain ⟨x, hx, h9⟩ := List.any_eq_true.1 h
    have h8 := u2 x hx
    have := of_decide_eq_true h9
    omega
  rw [e]
  unfold renewI
  rcases begin_law hn4 hd hw (N := following d (current d).1) (by omega) (by omega) f4 (fun _ h => f3 h.symm) (list d) u2 u1 with ⟨a1, a2, a3, a4⟩ | ⟨a1, a2, a3, a4, a5⟩
  · left
    rw [if_pos a1]
    refine ⟨rfl, _, following d (current d).1, ?_, a2, rfl, f1, f2, a3, a4⟩
    rw [show following d (current d).1 - 1 + 1 = following d (current d).1 by omega]
  · right
    rw [if_neg (by rw [a1]; decide)]
    refine ⟨a1, a3, a2, a4, fun ks hok2 => ?_⟩
    obtain ⟨b1, b2⟩ := a5 ks
    have hbt : Tb (D.restart (begin_ d (following d (current d).1) (list d)).1 ks) (B + 2) := fun i hi ht2 => Nat.le_trans (b2 i hi ht2) f2
    rcases b1 with ⟨c1, c2⟩ | c1
    · exact ⟨c2, hbt, fun h => by rw [c1]; exact ⟨h, Nat.le_refl _⟩⟩
    · exact ⟨c1.list hok2, hbt, fun _ => by rw [c1.cur]; exact ⟨rfl, by simp only; omega⟩⟩
end W5
end Go.Proofs.Ytmcmocakfhedfaa
