import Derived.Test.YtnjfioikpajhlaaGreatWalP
set_option maxRecDepth 100000
set_option maxHeartbeats 64000000
/- The plain law of the log: what holds of a log whatever was called, cut and kept. -/
namespace Go.Proofs.YtnjfioikpajhlaaGreat
open Go.RowKit
namespace W5
theorem flush_wait (d : D.Dsk) : (D.flush d).wait.length <= d.wait.length := by
 obtain ⟨_, h⟩ := fl_spec d
 rcases h with ⟨_, _, h, _⟩ | ⟨_, _, h, _⟩
 ·rw [h]; exact Nat.zero_le _
 ·rw [h]; exact Nat.le_refl _
theorem begin_wait (d : D.Dsk) (gen : Nat) (l : List (List UInt8)) : (begin_ d gen l).1.wait.length <= d.wait.length + used l + 1 := by
 have h := begTo_wait d gen l l.length (Nat.le_refl _)
 rw [usedTo_all] at h
 have hf := flush_wait (begTo d gen l l.length).1
 have hw := write_wait (D.flush (begTo d gen l l.length).1) ((gen % 2 : Nat) : Int) (head gen)
 have hf2 := flush_wait (D.write (D.flush (begTo d gen l l.length).1) ((gen % 2 : Nat) : Int) (head gen))
 unfold begin_
 split
 ·split
  ·split
   ·simp only; omega
   ·simp only; omega
  ·simp only; omega
 ·omega
theorem append_wait (L : Lg) (hn : L.d.n <= 4096) (b : List UInt8) : (append L b).1.d.wait.length <= L.d.wait.length + 100 := by
 obtain ⟨d, gen, recs, cl⟩ := L
 rw [append_eq]
 split
 ·simp only; omega
 ·split
  ·simp only; omega
  ·split
   ·simp only; omega
   ·rename_i h8 _
    have hl := lay_wait d gen recs.length (used recs) b
    have hnd := need_17 b.length (by omega)
    have ha : (appended ⟨d, gen, recs, cl⟩ b).1.wait.length <= d.wait.length + 17 := by
     have hf := flush_wait (lay d gen recs.length (used recs) b).1
     rw [appended_eq]
     have e : laid ⟨d, gen, recs, cl⟩ b = lay d gen recs.length (used recs) b := rfl
     rw [e]
     split
     ·simp only; omega
     ·omega
    split <;> (simp only; omega)
theorem renew_wait (L : Lg) (hn : L.d.n <= 4096) (ls : List (List UInt8)) : (renew L ls).1.d.wait.length <= L.d.wait.length + 3000 := by
 obtain ⟨d, gen, recs, cl⟩ := L
 have ha := area_le d hn
 rw [renew_eq]
 split
 ·simp only; omega
 ·split
  ·simp only; omega
  ·split
   ·simp only; omega
   ·split
    ·simp only; omega
    ·have hb := begin_wait d (gen + 1) ls
     unfold renewI
     split <;> (simp only; omega)
def GInv (L : Lg) (B : Nat) : Prop := L.gen <= B /\ ((L.cl = false /\ Live L.d L.gen L.recs) ∨
 (L.cl = true /\ L.d.down = true /\ 4 <= L.d.n /\ ∀ ks, D.Ok (D.restart L.d ks) -> ((current (D.restart L.d ks)).2 = true /\ L.gen <= (current (D.restart L.d ks)).1) /\ Tb (D.restart L.d ks) B))
theorem Tb.le {d : D.Dsk} {B B' : Nat} (h : Tb d B) (hB : B <= B') : Tb d B' := fun i hi ht => Nat.le_trans (h i hi ht) hB
theorem GInv.le {L : Lg} {B B' : Nat} (h : GInv L B) (hB : B <= B') : GInv L B' := by
 obtain ⟨h1, h2⟩ := h
 refine ⟨Nat.le_trans h1 hB, h2.imp id fun ⟨a, b, c, d⟩ => ⟨a, b, c, fun ks hk => ⟨(d ks hk).1, (d ks hk).2.le hB⟩⟩⟩
theorem live_fuse {d : D.Dsk} {g : Nat} {recs : List (List UInt8)} (h : Live d g recs) (a : Int) : Live (D.fuse d a) g recs := by
 unfold D.fuse
 split
 ·exact h
 ·split
  ·exact h
  ·exact ⟨h.n4, h.wait, h.down, h.hd, h.tb, h.pc, h.fit, h.len, h.fresh, h.g32⟩
theorem live_restart {d : D.Dsk} {g : Nat} {recs : List (List UInt8)} (h : Live d g recs) (ks : List Bool) : Live (D.restart d ks) g recs := by
 have hs : ∀ i : Int, D.sector (D.restart d ks) i = D.sector d i := by
  intro i
  rw [sector_img (show (D.restart d ks).wait = [] from rfl), sector_img h.wait]
  have e : (D.restart d ks).safe = D.over d.safe (D.kept d.wait ks) := rfl
  rw [e, h.wait, kept_nil]
  rfl
 refine ⟨h.n4, rfl, rfl, by rw [hs]; exact h.hd, fun i hi ht => ?_, fun k hk i hi => ?_, h.fit, h.len, fun j h1 h2 k h3 h4 i b => ?_, h.g32⟩
 ·rw [hs] at ht ⊢; exact h.tb i hi ht
 ·rw [hs]; exact h.pc k hk i hi
 ·rw [hs]; exact h.fresh j h1 h2 k h3 h4 i b
end W5
section
variable {w0 w w' : World} {X : Nat -> Prop} {p q : Nat} {L : W5.Lg}
theorem logd_fuse (h : Logd w0 w X p q L) (a : Int) (ha : a <= 9223372036854775807) :
 Calls Tryz.prog 15 #[.pointer (some ⟨p, 0, none⟩), .int .i64 a] w fun e w' => e = .returned (.int .i64 (D.fuseE L.d a)) /\ Logd w0 w' X p q ⟨D.fuse L.d a, L.gen, L.recs, L.cl⟩ /\ Keeps X w w' := by
 obtain ⟨⟨Y, lv, vs, hY⟩, h2, h3, h4⟩ := h
 refine (held_fuse hY.held a ha).mono ?_
 rintro e w' ⟨he, hst⟩
 obtain ⟨hY', hK⟩ := hY.disk hst
 refine ⟨he, ⟨⟨Y, lv, vs, hY'⟩, ?_, h3, h4⟩, hK⟩
 have e : (D.fuse L.d a).n = L.d.n := by unfold D.fuse; split <;> (try split) <;> rfl
 simp only
 rw [W5.area_same e]
 exact h2
end
end Go.Proofs.YtnjfioikpajhlaaGreat
