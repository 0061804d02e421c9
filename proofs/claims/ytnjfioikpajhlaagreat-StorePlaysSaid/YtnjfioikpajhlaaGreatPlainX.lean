import Derived.Test.YtnjfioikpajhlaaGreatPlainV
import Derived.Test.YtnjfioikpajhlaaGreatWalU
set_option maxRecDepth 100000
set_option maxHeartbeats 64000000
/- The store's plain law: a store's life over a disk on which nothing was cut. -/
namespace Go.Proofs.YtnjfioikpajhlaaGreat
namespace W5
theorem renew_ok {d : D.Dsk} {g : Nat} {recs : List (List UInt8)} (h : Live d g recs) (_hok : D.Ok d) (hg : g < 4294967295) (ha : d.armed = false) (ls : List (List UInt8)) (hl : ∀ b ∈ ls, b.length <= 8192) (hf : used ls <= area d) :
 (renew ⟨d, g, recs, false⟩ ls).2 = 0 /\ ∃ Y, (renew ⟨d, g, recs, false⟩ ls).1 = ⟨Y, g + 1, ls, false⟩ /\ Live Y (g + 1) ls /\ Y.n = d.n /\ Y.armed = false := by
 rcases begin_law h.n4 h.down h.wait (N := g + 1) (by omega) (by omega) h.tb (by rw [h.cur]; intro _; simp only; omega) ls hl hf with ⟨a1, a2, a3, a4⟩ | ⟨_, _, a3, _⟩
 ·rw [renew_eq, if_neg (by decide), if_neg, if_neg (by omega), if_neg (by omega)]
  ·unfold renewI
   rw [if_pos a1]
   exact ⟨rfl, _, rfl, a2, a3, a4.trans ha⟩
  ·intro h2
   obtain ⟨x, hx, h9⟩ := List.any_eq_true.1 h2
   have h8 := hl x hx
   have := of_decide_eq_true h9
   omega
 ·rw [ha] at a3; cases a3
end W5
namespace S6
theorem apl_pos {n : Nat} (hn : 1 <= n) : ∀ (ws : List Wr) {l : List Pr}, (∀ p ∈ l, 1 <= p.ver) -> ∀ p ∈ apl l n ws, 1 <= p.ver
 | [], l, h => h
 | x :: ws, l, h => by
  rw [apl_cons]
  apply apl_pos hn ws
  intro p hp
  unfold stepW at hp
  split at hp
  ·exact h p (del_mem hp)
  ·rcases ins_mem hp with rfl | h2
   ·exact hn
   ·exact h p h2
structure SInv (S : St) (n : Int) (B : Nat) : Prop where
 cl : S.cl = false
 lcl : S.L.cl = false
 live : W5.Live S.L.d S.L.gen S.L.recs
 nn : S.L.d.n = n
 arm : S.L.d.armed = false
 gen : S.L.gen <= B
 num : S.num <= B
 pl : play S.L.recs = some (S.l, S.num)
 srt : Srt S.l
 pk : ∀ p ∈ S.l, POk S.num p
 len : S.l.length <= 64 * B
 pos : ∀ p ∈ S.l, 1 <= p.ver
theorem SInv.wait {S : St} {n : Int} {B : Nat} (h : SInv S n B) : S.L.d.wait.length <= 1073600000 := by rw [h.live.wait]; simp
theorem SInv.le {S : St} {n : Int} {B B' : Nat} (h : SInv S n B) (hB : B <= B') : SInv S n B' :=
 ⟨h.cl, h.lcl, h.live, h.nn, h.arm, Nat.le_trans h.gen hB, Nat.le_trans h.num hB, h.pl, h.srt, h.pk, Nat.le_trans h.len (Nat.mul_le_mul_left _ hB), h.pos⟩
theorem image_len {l : List Pr} {m : Nat} (hp : ∀ p ∈ l, POk m p) (hm : m <= lastN) : ∀ b ∈ image l m, b.length <= 8192 := by
 intro b hb
 rcases List.mem_cons.1 hb with rfl | h2
 ·have := batch0_len m hm; omega
 ·obtain ⟨p, h3, rfl⟩ := List.mem_map.1 h2
  have := prB_len (hp p h3) hm; omega
inductive Out (S : St) (n : Int) (B : Nat) (ws : List Wr) : Prop
 | no (c : Int) (h0 : c ≠ 0) (he : commit S ws = (S, 0, c)) (hw : (wrongE S.l ws ≠ 0 /\ c = wrongE S.l ws) ∨ (Good S.l ws /\ ws ≠ [] /\ 8192 < (batchB (S.num + 1) ws).length /\ c = 2) ∨ (Good S.l ws /\ ws ≠ [] /\ (batchB (S.num + 1) ws).length <= 8192 /\ areaS S < needsL (apl S.l (S.num + 1) ws) /\ c = 6))
 | nil (hw : ws = []) (he : commit S ws = (S, S.num, 0))
 | yes (T : St) (hw : ws ≠ []) (hg : Good S.l ws) (hb : (batchB (S.num + 1) ws).length <= 8192) (hf : needsL (apl S.l (S.num + 1) ws) <= areaS S) (he : commit S ws = (T, S.num + 1, 0)) (hl : T.l = apl S.l (S.num + 1) ws) (hn : T.num = S.num + 1) (hi : SInv T n (B + 1))
theorem commit_out {S : St} {n : Int} {B : Nat} (h : SInv S n B) (hok : D.Ok S.L.d) (hB : B < 4294967290) (ws : List Wr) : Out S n B ws := by
 have hB2 := h.num
 have hB3 := h.gen
 have e0 : commit S ws = _ := rfl
 rw [commit.eq_1, if_neg (by rw [h.cl]; decide)] at e0
 by_cases h1 : wrongE S.l ws ≠ 0
 ·rw [if_pos h1] at e0
  exact .no _ h1 (by unfold commit; rw [if_neg (by rw [h.cl]; decide), if_pos h1]) (.inl ⟨h1, rfl⟩)
 ·rw [if_neg h1] at e0
  have hg := wrong_good (Classical.byContradiction h1 : wrongE S.l ws = 0)
  by_cases h2 : ws = []
  ·exact .nil h2 (by unfold commit; rw [if_neg (by rw [h.cl]; decide), if_neg h1, if_pos h2])
  ·have h3 : ¬ S.num = lastN := by unfold lastN; omega
   by_cases h4 : 8192 < (batchB (S.num + 1) ws).length
   ·exact .no 2 (by decide) (by unfold commit; rw [if_neg (by rw [h.cl]; decide), if_neg h1, if_neg h2, if_neg h3, if_pos h4]) (.inr (.inl ⟨hg, h2, h4, rfl⟩))
   ·by_cases h5 : areaS S < needsL (apl S.l (S.num + 1) ws)
    ·exact .no 6 (by decide) (by unfold commit; rw [if_neg (by rw [h.cl]; decide), if_neg h1, if_neg h2, if_neg h3, if_neg h4, if_pos h5]) (.inr (.inr ⟨hg, h2, by omega, h5, rfl⟩))
    ·have ec : commit S ws = after S ws := by unfold commit; rw [if_neg (by rw [h.cl]; decide), if_neg h1, if_neg h2, if_neg h3, if_neg h4, if_neg h5]
     have hs := apl_srt h.srt (S.num + 1) ws
     have hp : ∀ p ∈ apl S.l (S.num + 1) ws, POk (S.num + 1) p := apl_pok (fun p hp => (h.pk p hp).le (Nat.le_succ _)) hg.ok (Nat.le_refl _)
     have hps := apl_pos (n := S.num + 1) (by omega) ws h.pos
     have hm : S.num + 1 <= lastN := by unfold lastN; omega
     have hln : (apl S.l (S.num + 1) ws).length <= 64 * (B + 1) := by
      have a1 := apl_len (S.num + 1) ws S.l
      have a2 := h.len
      have a3 := hg.len
      omega
     have hL : S.L = ⟨S.L.d, S.L.gen, S.L.recs, false⟩ := by rw [<- h.lcl]
     by_cases h6 : W5.need (batchB (S.num + 1) ws).length + W5.used S.L.recs <= areaS S
     ·obtain ⟨b1, Y, b2, b3, b4, b5⟩ := W5.append_ok h.live h.arm (batchB (S.num + 1) ws) (by omega) (by unfold areaS at h6; omega)
      have el : logs S ws = W5.append ⟨S.L.d, S.L.gen, S.L.recs, false⟩ (batchB (S.num + 1) ws) := by unfold logs; rw [if_pos h6, <- hL]
      have ea : after S ws = (⟨(logs S ws).1, apl S.l (S.num + 1) ws, S.num + 1, false⟩, S.num + 1, 0) := by unfold after; rw [if_pos (by rw [el]; exact b1)]
      rw [el, b2] at ea
      refine .yes _ h2 hg (by omega) (by omega) (ec.trans ea) rfl rfl ⟨rfl, rfl, b3, b4.trans h.nn, b5, by simp only; omega, by simp only; omega, ?_, hs, hp, hln, hps⟩
      have := play_snoc h.pl (readB_back (S.num + 1) ws hm hg.len hg.ok)
      rw [apl_strip, Nat.max_eq_right (Nat.le_succ _)] at this
      exact this
     ·have hu := used_image (l := apl S.l (S.num + 1) ws) hm
      obtain ⟨b1, Y, b2, b3, b4, b5⟩ := W5.renew_ok h.live hok (by omega) h.arm (image (apl S.l (S.num + 1) ws) (S.num + 1)) (image_len hp hm) (by unfold areaS at h5; omega)
      have el : logs S ws = W5.renew ⟨S.L.d, S.L.gen, S.L.recs, false⟩ (image (apl S.l (S.num + 1) ws) (S.num + 1)) := by unfold logs; rw [if_neg h6, <- hL]
      have ea : after S ws = (⟨(logs S ws).1, apl S.l (S.num + 1) ws, S.num + 1, false⟩, S.num + 1, 0) := by unfold after; rw [if_pos (by rw [el]; exact b1)]
      rw [el, b2] at ea
      exact .yes _ h2 hg (by omega) (by omega) (ec.trans ea) rfl rfl ⟨rfl, rfl, b3, b4.trans h.nn, b5, by simp only; omega, by simp only; omega, play_image hs hp hm, hs, hp, hln, hps⟩
theorem SInv.commit {S : St} {n : Int} {B : Nat} (h : SInv S n B) (hok : D.Ok S.L.d) (hB : B < 4294967290) (ws : List Wr) : SInv (commit S ws).1 n (B + 1) := by
 cases commit_out h hok hB ws with
 | no c h0 he hw => rw [he]; exact h.le (Nat.le_succ _)
 | nil hw he => rw [he]; exact h.le (Nat.le_succ _)
 | yes T hw hg hb hf he hl hn hi => rw [he]; exact hi
end S6
end Go.Proofs.YtnjfioikpajhlaaGreat
