import Derived.Test.YtnjfioikpajhlaaMSt5
import Derived.Test.YtnjfioikpajhlaaWalX6
/- The store where the power goes off: what a commit leaves; a fuse under a store; a store opened behind a crash. -/
namespace Go.Proofs.Ytnjfioikpajhlaa
open Go.RowKit Go.Shelf

namespace S6
/-- The keys and the number behind a batch that is done. -/
def aft (l : List Pr) (m : Nat) (ws : List Wr) : List Pr × Nat := if ws = [] then (l, m) else (apl l (m + 1) ws, m + 1)
/-- The same store over another disk. -/
def over (S : St) (d : D.Dsk) : St := ⟨⟨d, S.L.gen, S.L.recs, S.L.cl⟩, S.l, S.num, S.cl⟩
theorem wrongF_ne (l : List Pr) : ∀ (ws pre : List Wr), wrongF l pre ws ≠ 3
  | [], pre => by unfold wrongF; decide
  | x :: ws, pre => by
    unfold wrongF
    split
    · exact wrongOne_le
    · exact wrongF_ne l ws _
theorem wrongE_ne (l : List Pr) (ws : List Wr) : wrongE l ws ≠ 3 := by
  unfold wrongE
  split
  · decide
  · exact wrongF_ne l ws []
/-- What a commit leaves behind a crash. -/
theorem commit_leaves {S : St} {n : Int} {B : Nat} (h : SInv S n B) {d' : D.Dsk} (hl : W5.Live d' S.L.gen S.L.recs) (hok : D.Ok d') (hB : B < 4294967290) (ws : List Wr) {T : St} {nn : Nat} {cc : Int} (hR : (T, nn, cc) = commit (over S d') ws) :
    W5.Leaves T.L.d (fun rs => play rs = some (if cc ≠ 0 ∧ cc ≠ 3 then (S.l, S.num) else aft S.l S.num ws) ∨ (cc = 3 ∧ play rs = some (S.l, S.num))) (B + 1) := by
  have hB2 := h.num
  have hB3 := h.gen
  have hsame : ∀ {T : St}, T = over S d' → W5.Leaves T.L.d (fun rs => play rs = some (S.l, S.num)) (B + 1) := by
    rintro T rfl
    exact (W5.Leaves.of_live hl (show S.L.gen ≤ B + 1 by omega)).imp (fun rs e => by rw [e]; exact h.pl)
  have eL : (over S d').L = ⟨d', S.L.gen, S.L.recs, false⟩ := by unfold over; rw [h.lcl]
  unfold commit at hR
  rw [if_neg (show ¬ (over S d').cl = true by unfold over; rw [h.cl]; decide)] at hR
  split at hR
  · rename_i h1
    obtain ⟨e1, e2⟩ := Prod.mk.inj hR
    obtain ⟨e2, e3⟩ := Prod.mk.inj e2
    have hc3 : cc ≠ 3 := by rw [e3]; exact wrongE_ne _ _
    have hc0 : cc ≠ 0 := by rw [e3]; exact h1
    rw [if_pos ⟨hc0, hc3⟩]
    exact (hsame e1).imp (fun rs e => .inl e)
  · rename_i h1
    have hg := wrong_good (Classical.byContradiction h1 : wrongE S.l ws = 0)
    split at hR
    · rename_i h2
      obtain ⟨e1, e2⟩ := Prod.mk.inj hR
      obtain ⟨e2, e3⟩ := Prod.mk.inj e2
      rw [if_neg (by rw [e3]; simp), show aft S.l S.num ws = (S.l, S.num) by unfold aft; rw [if_pos h2]]
      exact (hsame e1).imp (fun rs e => .inl e)
    · rename_i h2
      have hA : aft S.l S.num ws = (apl S.l (S.num + 1) ws, S.num + 1) := by unfold aft; rw [if_neg h2]
      split at hR
      · rename_i h3
        have h4 : S.num = lastN := h3
        unfold lastN at h4
        omega
      · split at hR
        · obtain ⟨e1, e2⟩ := Prod.mk.inj hR
          obtain ⟨e2, e3⟩ := Prod.mk.inj e2
          rw [if_pos (by rw [e3]; exact ⟨by decide, by decide⟩)]
          exact (hsame e1).imp (fun rs e => .inl e)
        · split at hR
          · obtain ⟨e1, e2⟩ := Prod.mk.inj hR
            obtain ⟨e2, e3⟩ := Prod.mk.inj e2
            rw [if_pos (by rw [e3]; exact ⟨by decide, by decide⟩)]
            exact (hsame e1).imp (fun rs e => .inl e)
          · have hm : S.num + 1 ≤ lastN := by unfold lastN; omega
            have hs := apl_srt h.srt (S.num + 1) ws
            have hp : ∀ p ∈ apl S.l (S.num + 1) ws, POk (S.num + 1) p := apl_pok (fun p hp => (h.pk p hp).le (Nat.le_succ _)) hg.ok (Nat.le_refl _)
            have hdone : ∃ A, W5.Done d' S.L.gen S.L.recs A (logs (over S d') ws) ∧ play A = some (apl S.l (S.num + 1) ws, S.num + 1) := by
              unfold logs
              rw [eL]
              split
              · refine ⟨_, W5.done_append hl _, ?_⟩
                have := play_snoc h.pl (readB_back (S.num + 1) ws hm hg.len hg.ok)
                rw [apl_strip, Nat.max_eq_right (Nat.le_succ _)] at this
                exact this
              · exact ⟨_, W5.done_renew hl hok (by omega) _, play_image hs hp hm⟩
            obtain ⟨A, hD, hpA⟩ := hdone
            unfold after at hR
            generalize logs (over S d') ws = r at *
            rcases hD with ⟨q1, q2⟩ | ⟨q1, q2, q3⟩ | ⟨q1, q3⟩
            · rw [if_neg (by rcases q2 with q2 | q2 <;> rw [q2] <;> decide)] at hR
              obtain ⟨e1, e2⟩ := Prod.mk.inj hR
              obtain ⟨e2, e3⟩ := Prod.mk.inj e2
              rw [if_pos (by rw [e3]; rcases q2 with q2 | q2 <;> rw [q2] <;> exact ⟨by decide, by decide⟩)]
              have hd : T.L.d = d' := by rw [e1]; simp only; rw [q1]
              rw [hd]
              exact (W5.Leaves.of_live hl (show S.L.gen ≤ B + 1 by omega)).imp (fun rs e => .inl (by rw [e]; exact h.pl))
            · rw [if_pos q1] at hR
              obtain ⟨e1, e2⟩ := Prod.mk.inj hR
              obtain ⟨e2, e3⟩ := Prod.mk.inj e2
              rw [if_neg (by rw [e3]; simp), hA]
              have hd : T.L.d = r.1.d := by rw [e1]
              rw [hd]
              exact ⟨q3.1, fun ks hk => ⟨.inl (by rw [(q3.2 ks hk).1]; exact hpA), (q3.2 ks hk).2.le (by omega)⟩⟩
            · rw [if_neg (by rw [q1]; decide)] at hR
              obtain ⟨e1, e2⟩ := Prod.mk.inj hR
              obtain ⟨e2, e3⟩ := Prod.mk.inj e2
              have hc : cc = 3 := e3.trans q1
              rw [if_neg (by rw [hc]; simp), hA]
              have hd : T.L.d = r.1.d := by rw [e1]
              rw [hd]
              refine ⟨q3.1, fun ks hk => ⟨?_, (q3.2 ks hk).2.le (by omega)⟩⟩
              rcases (q3.2 ks hk).1 with e | e
              · exact .inr ⟨hc, by rw [e]; exact h.pl⟩
              · exact .inl (by rw [e]; exact hpA)
end S6
section
variable {w0 w w' : World} {X : Nat → Prop} {p q : Nat} {S : S6.St} {d : D.Dsk}
theorem stod_fuse (h : Stod w0 w X p q S) (a : Int) (ha : a ≤ 9223372036854775807) :
    Calls Try.prog 32 #[.pointer (some ⟨p, 0, none⟩), .int .i64 a] w fun e w' => e = .returned (.int .i64 (D.fuseE S.L.d a)) ∧ Stod w0 w' X p q (S6.over S (D.fuse S.L.d a)) ∧ Keeps X w w' := by
  obtain ⟨Y, Z, ql, xv, x, n, nd, h1⟩ := h
  refine (logd_fuse h1.log a ha).mono ?_
  rintro e w' ⟨he, hL, hK⟩
  have e9 : (D.fuse S.L.d a).n = S.L.d.n := by unfold D.fuse; split <;> (try split) <;> rfl
  have hA : S6.areaS (S6.over S (D.fuse S.L.d a)) = S6.areaS S := W5.area_same e9
  refine ⟨he, ⟨Y, Z, ql, xv, x, n, nd, ⟨hL, h1.sub, h1.qY, h1.qX, h1.qb, h1.old, ?_, h1.idx.keeps (hK.less (fun k hk => (h1.zs k hk).1)), h1.zs, h1.ok, h1.fl, h1.nn, h1.dd, h1.pk, h1.nm, h1.ln⟩⟩, hK.less h1.sub⟩
  rw [hA]
  exact blk_mod h1.blk hK (fun hn => hn h1.qY)
theorem fuse_rest {l : List (List UInt8)} {B : Nat} {a : Int} (h : Held w0 w X p d) (hr : W5.Rest d l B) (ha : a ≤ 9223372036854775807) :
    Calls Try.prog 32 #[.pointer (some ⟨p, 0, none⟩), .int .i64 a] w fun e w' => ∃ d' z, e = .returned (.int .i64 z) ∧ Step w0 w w' X p d' ∧ W5.Rest d' l B := by
  refine (held_fuse h a ha).mono ?_
  rintro e w' ⟨he, hs⟩
  exact ⟨_, _, he, hs, hr.fuse a⟩
theorem openS_fst (d : D.Dsk) : (S6.openS d).1 = (W5.open_ d).1 := by
  unfold S6.openS
  split
  · rfl
  · split <;> rfl
theorem openS_some {d : D.Dsk} {S : S6.St} (h : (S6.openS d).2.1 = some S) : S.L = (W5.open_ d).1 := by
  unfold S6.openS at h
  split at h
  · cases h
  · split at h
    · cases h
    · cases h; rfl
theorem open6_rest {l : List (List UInt8)} {B : Nat} (h : Held w0 w X p d) (hr : W5.Rest d l B) (hB : B + 2 < 4294967295) :
    Calls Try.prog 30 #[.pointer (some ⟨p, 0, none⟩)] w fun e w' => ∃ d' v z, e = .returned (.tuple #[v, .int .i64 z]) ∧ Step w0 w w' X p d' ∧ W5.Leaves d' (fun l' => l' = l) (B + 2) := by
  obtain ⟨_, o2, _, _⟩ := hr.open_ h.okd hB
  refine (open6_any h (by rw [hr.wait]; exact Nat.zero_le _)).mono ?_
  rintro e w' (⟨S, q, hS, rfl, _, hL, hK⟩ | ⟨_, rfl, hst⟩)
  · refine ⟨S.L.d, _, _, rfl, ⟨hL.held, hK⟩, ?_⟩
    rw [openS_some hS]
    exact o2
  · rw [openS_fst] at hst
    exact ⟨_, _, _, rfl, hst, o2⟩
theorem open6_last {l : List (List UInt8)} {B : Nat} {a : List S6.Pr} {m : Nat} (h : Held w0 w X p d) (hr : W5.Rest d l B) (ha : d.armed = false) (hB : B + 2 < 4294967295) (hp : S6.play l = some (a, m)) :
    Calls Try.prog 30 #[.pointer (some ⟨p, 0, none⟩)] w fun e w' => ∃ q Z, e = .returned (.tuple #[.pointer (some ⟨q, 0, none⟩), .int .i64 0]) ∧ Stod w0 w' X p q Z ∧ Z.l = a ∧ Z.num = m ∧ Keeps X w w' := by
  obtain ⟨_, _, o3, o4⟩ := hr.open_ h.okd hB
  have h0 := o3 ha
  have hS : S6.openS d = ((W5.open_ d).1, some ⟨(W5.open_ d).1, a, m, false⟩, 0) := by
    unfold S6.openS
    rw [if_neg (by rw [h0]; decide), o4 h0, hp]
  refine (open6_any h (by rw [hr.wait]; exact Nat.zero_le _)).mono ?_
  rintro e w' (⟨S, q, hS2, rfl, _, hL, hK⟩ | ⟨hS2, _, _⟩)
  · rw [hS] at hS2
    obtain rfl := Option.some.inj hS2
    exact ⟨q, _, rfl, hL, rfl, rfl, hK⟩
  · rw [hS] at hS2
    cases hS2
end
end Go.Proofs.Ytnjfioikpajhlaa
