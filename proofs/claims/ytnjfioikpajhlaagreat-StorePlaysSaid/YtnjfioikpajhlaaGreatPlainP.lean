import Derived.Test.YtnjfioikpajhlaaGreatStX
set_option maxRecDepth 100000
set_option maxHeartbeats 64000000
/- The store's plain law: a store's life whatever was cut and kept. -/
namespace Go.Proofs.YtnjfioikpajhlaaGreat
open Go.RowKit Go.Shelf
namespace S6
structure FitS (l : List Pr) (m B : Nat) : Prop where
 srt : Srt l
 pk : ∀ p ∈ l, POk m p
 len : l.length <= 64 * B
 num : m <= B
theorem FitS.le {l : List Pr} {m B B' : Nat} (h : FitS l m B) (hB : B <= B') : FitS l m B' := ⟨h.srt, h.pk, Nat.le_trans h.len (Nat.mul_le_mul_left _ hB), Nat.le_trans h.num hB⟩
theorem FitS.apl {l : List Pr} {m B : Nat} (h : FitS l m B) {ws : List Wr} (hg : Good l ws) : FitS (apl l (m + 1) ws) (m + 1) (B + 1) := by
 refine ⟨apl_srt h.srt _ _, apl_pok (fun p hp => (h.pk p hp).le (Nat.le_succ _)) hg.ok (Nat.le_refl _), ?_, Nat.succ_le_succ h.num⟩
 have a1 := apl_len (m + 1) ws l
 have a2 := h.len
 have a3 := hg.len
 omega
def Plays (B : Nat) (rs : List (List UInt8)) : Prop := ∃ l m, play rs = some (l, m) /\ FitS l m B
theorem Plays.le {rs : List (List UInt8)} {B B' : Nat} (h : Plays B rs) (hB : B <= B') : Plays B' rs := let ⟨l, m, h1, h2⟩ := h; ⟨l, m, h1, h2.le hB⟩
theorem leaves_le {d : D.Dsk} {B B' : Nat} (h : W5.Leaves d (Plays B) B) (hB : B <= B') : W5.Leaves d (Plays B') B' := ⟨h.1, fun ks hok => ⟨(h.2 ks hok).1.le hB, (h.2 ks hok).2.le hB⟩⟩
structure PInv (S : St) (n : Int) (B : Nat) : Prop where
 nn : S.L.d.n = n
 gen : S.L.gen <= B
 fit : FitS S.l S.num B
 wl : S.L.d.wait.length <= 4000
 up : S.cl = false -> S.L.cl = false /\ W5.Live S.L.d S.L.gen S.L.recs /\ play S.L.recs = some (S.l, S.num)
 lv : W5.Leaves S.L.d (Plays B) B
theorem PInv.le {S : St} {n : Int} {B B' : Nat} (h : PInv S n B) (hB : B <= B') : PInv S n B' :=
 ⟨h.nn, Nat.le_trans h.gen hB, h.fit.le hB, h.wl, h.up, leaves_le h.lv hB⟩
theorem PInv.of_live {S : St} {n : Int} {B : Nat} (h1 : S.L.d.n = n) (h2 : S.L.gen <= B) (h3 : FitS S.l S.num B) (h4 : S.L.cl = false) (h5 : W5.Live S.L.d S.L.gen S.L.recs) (h6 : play S.L.recs = some (S.l, S.num)) : PInv S n B :=
 ⟨h1, h2, h3, by rw [h5.wait]; exact Nat.zero_le _, fun _ => ⟨h4, h5, h6⟩, (W5.Leaves.of_live h5 h2).imp (fun rs e => by rw [e]; exact ⟨_, _, h6, h3⟩)⟩
theorem PInv.of_sinv {S : St} {n : Int} {B : Nat} (h : SInv S n B) : PInv S n B := PInv.of_live h.nn h.gen ⟨h.srt, h.pk, h.len, h.num⟩ h.lcl h.live h.pl
theorem PInv.commit {S : St} {n : Int} {B : Nat} (h : PInv S n B) (hok : D.Ok S.L.d) (hB : B < 4294967290) (ws : List Wr) : PInv (commit S ws).1 n (B + 1) := by
 have hle := h.le (Nat.le_succ B)
 unfold S6.commit
 split
 ·exact hle
 ·rename_i hcl
  obtain ⟨u1, u2, u3⟩ := h.up (by simpa using hcl)
  split
  ·exact hle
  ·rename_i hw
   have hg := wrong_good (Classical.byContradiction hw : wrongE S.l ws = 0)
   split
   ·exact hle
   ·rename_i hne
    split
    ·exact hle
    ·split
     ·exact hle
     ·rename_i h8
      split
      ·exact hle
      ·rename_i ha
       have hnB := h.fit.num
       have hgB := h.gen
       have hm : S.num + 1 <= lastN := by unfold lastN; omega
       have hfa := h.fit.apl hg
       have hL : S.L = ⟨S.L.d, S.L.gen, S.L.recs, false⟩ := by rw [<- u1]
       have hpa : play (S.L.recs ++ [batchB (S.num + 1) ws]) = some (apl S.l (S.num + 1) ws, S.num + 1) := by
        have := play_snoc u3 (readB_back (S.num + 1) ws hm hg.len hg.ok)
        rw [apl_strip, Nat.max_eq_right (Nat.le_succ _)] at this
        exact this
       have hpi := play_image hfa.srt hfa.pk hm
       have key : ∀ R : W5.Lg × Int, R = logs S ws -> (R.1 = S.L /\ (R.2 = 2 ∨ R.2 = 6)) ∨ (R.2 = 0 /\ R.1.cl = false /\ R.1.d.n = S.L.d.n /\ R.1.gen <= B + 1 /\ W5.Live R.1.d R.1.gen R.1.recs /\ play R.1.recs = some (apl S.l (S.num + 1) ws, S.num + 1)) ∨
        (R.2 = 3 /\ R.1.d.n = S.L.d.n /\ R.1.gen <= B + 1 /\ R.1.d.wait.length <= 4000 /\ W5.Leaves R.1.d (Plays (B + 1)) (B + 1)) := by
        rintro R rfl
        have hwz := u2.wait
        have hn4 := hok.n2
        unfold logs
        split
        ·have hwt := W5.append_wait S.L hn4 (batchB (S.num + 1) ws)
         rw [hwz] at hwt
         rcases W5.append_law u2 (batchB (S.num + 1) ws) with ⟨q, q1⟩ | ⟨q0, X, q, q2, q3, _⟩ | ⟨q0, _, X, q, q2, q3, q4⟩
         ·rw [<- hL] at q q1
          exact .inl ⟨q, q1⟩
         ·rw [<- hL] at q q0
          refine .inr (.inl ⟨q0, ?_⟩)
          rw [q]
          exact ⟨rfl, q3, by simp only; omega, q2, hpa⟩
         ·rw [<- hL] at q q0
          refine .inr (.inr ⟨q0, ?_⟩)
          rw [q] at hwt ⊢
          refine ⟨q3, by simp only; omega, by simp only [List.length_nil] at hwt ⊢; omega, by simp only; rw [q3]; exact u2.n4, fun ks hk => ⟨?_, ?_⟩⟩
          ·rcases (q4 ks hk).1 with e | e
           ·rw [e]; exact ⟨_, _, u3, h.fit.le (Nat.le_succ _)⟩
           ·rw [e]; exact ⟨_, _, hpa, hfa⟩
          ·exact (q4 ks hk).2.2.le (by omega)
        ·have hwt := W5.renew_wait S.L hn4 (image (apl S.l (S.num + 1) ws) (S.num + 1))
         rw [hwz] at hwt
         rcases W5.renew_law u2 hok (by omega) (image (apl S.l (S.num + 1) ws) (S.num + 1)) with ⟨q, q1⟩ | ⟨q0, X, q, q2, q3, _⟩ | ⟨q0, _, X, q, q2, q3, q4⟩
         ·rw [<- hL] at q q1
          exact .inl ⟨q, q1⟩
         ·rw [<- hL] at q q0
          refine .inr (.inl ⟨q0, ?_⟩)
          rw [q]
          exact ⟨rfl, q3, by simp only; omega, q2, hpi⟩
         ·rw [<- hL] at q q0
          refine .inr (.inr ⟨q0, ?_⟩)
          rw [q] at hwt ⊢
          refine ⟨q3, by simp only; omega, by simp only [List.length_nil] at hwt ⊢; omega, by simp only; rw [q3]; exact u2.n4, fun ks hk => ⟨?_, ?_⟩⟩
          ·rcases (q4 ks hk).1 with e | e
           ·rw [e]; exact ⟨_, _, u3, h.fit.le (Nat.le_succ _)⟩
           ·rw [e]; exact ⟨_, _, hpi, hfa⟩
          ·exact (q4 ks hk).2.2.le (by omega)
       have hk := key _ rfl
       unfold after
       generalize logs S ws = R at *
       clear key
       rcases hk with ⟨q, q1⟩ | ⟨q0, q1, q2, q3, q4, q5⟩ | ⟨q0, q1, q2, q3, q4⟩
       ·rw [if_neg (by rcases q1 with q1 | q1 <;> rw [q1] <;> decide)]
        simp only
        rw [q]
        exact PInv.of_live h.nn (Nat.le_succ_of_le h.gen) (h.fit.le (Nat.le_succ _)) u1 u2 u3
       ·rw [if_pos q0]
        exact PInv.of_live (q2.trans h.nn) q3 hfa q1 q4 q5
       ·rw [if_neg (by rw [q0]; decide)]
        simp only
        exact ⟨q1.trans h.nn, q2, h.fit.le (Nat.le_succ _), q3, fun e => (by simp only [q0] at e; exact absurd e (by decide)), q4⟩
theorem fuse_safe (d : D.Dsk) (a : Int) : (D.fuse d a).safe = d.safe := by unfold D.fuse; split <;> (try split) <;> rfl
theorem fuse_n (d : D.Dsk) (a : Int) : (D.fuse d a).n = d.n := by unfold D.fuse; split <;> (try split) <;> rfl
theorem fuse_wait (d : D.Dsk) (a : Int) : (D.fuse d a).wait = d.wait := by unfold D.fuse; split <;> (try split) <;> rfl
theorem PInv.fuse {S : St} {n : Int} {B : Nat} (h : PInv S n B) (hok : D.Ok S.L.d) (a : Int) : PInv (over S (D.fuse S.L.d a)) n B := by
 refine ⟨(fuse_n _ _).trans h.nn, h.gen, h.fit, by unfold over; simp only; rw [fuse_wait]; exact h.wl, fun e => ?_, ?_, fun ks hk => ?_⟩
 ·obtain ⟨u1, u2, u3⟩ := h.up e
  exact ⟨u1, W5.live_fuse u2 a, u3⟩
 ·unfold over; simp only; rw [fuse_n]; exact h.lv.1
 ·unfold over at hk ⊢
  simp only at hk ⊢
  have e1 : (D.restart (D.fuse S.L.d a) ks).n = (D.restart S.L.d ks).n := fuse_n _ _
  have e2 : (D.restart (D.fuse S.L.d a) ks).safe = (D.restart S.L.d ks).safe := by unfold D.restart; simp only; rw [fuse_safe, fuse_wait]
  have es : ∀ i : Nat, D.sector (D.restart (D.fuse S.L.d a) ks) (i : Int) = D.sector (D.restart S.L.d ks) (i : Int) := fun i => by
   unfold D.sector
   rw [e2]
   rfl
  have hk2 : D.Ok (D.restart S.L.d ks) := ⟨by rw [<- e1]; exact hk.n1, by rw [<- e1]; exact hk.n2, (fun x hx => by cases hx), (by rw [<- e1, <- e2]; exact hk.sl), hok.a1, hok.a2⟩
  obtain ⟨q1, q2⟩ := h.lv.2 ks hk2
  exact ⟨by rw [W5.list_same e1 es]; exact q1, W5.tb_same e1 es q2⟩
theorem PInv.open_ {S : St} {n : Int} {B : Nat} (h : PInv S n B) (ks : List Bool) (hok : D.Ok (D.restart S.L.d ks)) (hB : B + 2 < 4294967290) : ∃ T, openS (D.restart S.L.d ks) = (T.L, some T, 0) /\ PInv T n (B + 2) /\ T.cl = false := by
 obtain ⟨⟨l, m, h1, h2⟩, h3⟩ := h.lv.2 ks hok
 have hn4 := h.lv.1
 rcases W5.open_law (d := D.restart S.L.d ks) hn4 rfl rfl hok (by omega) h3 with ⟨a1, X, N, a2, a3, _, _, a4, a5, _⟩ | ⟨_, a2, _⟩
 ·refine ⟨⟨⟨X, N, W5.list (D.restart S.L.d ks), false⟩, l, m, false⟩, ?_, ?_, rfl⟩
  ·unfold openS
   rw [if_neg (by rw [a1]; decide), a2]
   simp only
   rw [h1]
  ·exact PInv.of_live (a5.trans h.nn) a4 (h2.le (by omega)) rfl a3 h1
 ·cases a2
theorem PInv.log {S : St} {n : Int} {B : Nat} (h : PInv S n B) (hok : D.Ok S.L.d) (hcl : S.cl = false) : W5.used S.L.recs <= W5.area S.L.d /\ (∀ b ∈ S.L.recs, b.length <= 8192) /\ S.L.gen < 4294967296 /\ 1 <= S.L.d.n /\ S.L.d.n <= 4096 := by
 obtain ⟨_, u2, _⟩ := h.up hcl
 exact ⟨u2.fit, u2.len, u2.g32, hok.n1, hok.n2⟩
theorem PInv.start {n : Int} (h1 : 4 <= n) (hok : D.Ok (D.fresh n)) : ∃ S, openS (D.fresh n) = (S.L, some S, 0) /\ PInv S n 1 /\ S.cl = false := by
 obtain ⟨S, a1, _, _, a2⟩ := openS_fresh h1 hok
 exact ⟨S, a1, PInv.of_sinv a2, a2.cl⟩
end S6
end Go.Proofs.YtnjfioikpajhlaaGreat
