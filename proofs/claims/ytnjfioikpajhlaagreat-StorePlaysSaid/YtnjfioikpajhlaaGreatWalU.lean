import Derived.Test.YtnjfioikpajhlaaGreatWalP
import Derived.Lib.SlBytesConst
import Derived.Lib.SliceRun
set_option maxRecDepth 100000
set_option maxHeartbeats 64000000
/- jetwaylaw05.awake; a log behind memory of the walk's own. -/
namespace Go.Proofs.YtnjfioikpajhlaaGreat
open Go.RowKit
section
variable {w0 w w1 : World} {X : Nat -> Prop} {p q : Nat} {L : W5.Lg}
theorem Logd.all (h : Logd w0 w X p q L) (hx : Ext w w1) : Logd w0 w1 (New X w w1) p q L :=
 let ⟨⟨_Y, lv, vs, hY⟩, h2, h3, h4⟩ := h
 ⟨⟨_, lv, vs, hY.all hx⟩, h2, h3, h4⟩
theorem Logd.after (h : Logd w0 w X p q L) (hx : Ext w w1) : Logd w0 w1 X p q L :=
 let ⟨⟨Y, lv, vs, hY⟩, h2, h3, h4⟩ := h
 ⟨⟨Y, lv, vs, hY.ext hx⟩, h2, h3, h4⟩
theorem Logd.old (h : Logd w0 w X p q L) : ∀ k, k < w0.heap.size -> X k :=
 let ⟨⟨_, _, _, hY⟩, _, _, _⟩ := h
 hY.old
theorem Logd.ok (h : Logd w0 w X p q L) : D.Ok L.d := h.held.okd
theorem logd_room (h : Logd w0 w X p q L) : Calls Tryz.prog 47 #[.pointer (some ⟨q, 0, none⟩)] w fun e w' => e = .returned (.int .i64 ((W5.area L.d : Int) - (W5.used L.recs : Int))) /\ Ext w w' := by
 have ho := h.ok
 have hf := h.fit
 have ha := W5.area_le L.d ho.n2
 obtain ⟨⟨Y, lv, vs, hY⟩, _, _, _⟩ := h
 exact room_any hY.held hY.at_.c0 (W5.used L.recs) (by omega) hY.at_.c2
end
namespace W5
theorem fresh_sector (n : Int) (i : Int) : D.sector (D.fresh n) i = List.replicate 512 0 := rfl
theorem fresh_tb (n : Int) (B : Nat) : Tb (D.fresh n) B := fun i _ h => by rw [fresh_sector, zero_silent] at h; cases h
theorem current_silent {d : D.Dsk} (h0 : tells (D.sector d ((0 : Nat) : Int)) = false) (h1 : tells (D.sector d ((1 : Nat) : Int)) = false) : current d = (0, false) := by
 have e : current d = curStep d (curStep d (0, false) 0) 1 := rfl
 have a : curStep d (0, false) 0 = (0, false) := by
  unfold curStep
  rw [if_neg]
  rintro ⟨_, b, _⟩
  rw [b, head_tells] at h0
  cases h0
 rw [e, a]
 unfold curStep
 rw [if_neg]
 rintro ⟨_, b, _⟩
 rw [b, head_tells] at h1
 cases h1
theorem fresh_open {n : Int} (h1 : 4 <= n) (hok : D.Ok (D.fresh n)) : (open_ (D.fresh n)).2 = 0 /\ ∃ Y, (open_ (D.fresh n)).1 = ⟨Y, 1, [], false⟩ /\ Live Y 1 [] /\ Y.n = n /\ Y.armed = false := by
 have hc : current (D.fresh n) = (0, false) := current_silent zero_silent zero_silent
 have hl : list (D.fresh n) = [] := by unfold list; rw [hc]; rfl
 have hf : following (D.fresh n) (current (D.fresh n)).1 = 1 := by
  rw [hc]
  exact following_live (show (0 : Int) <= n by omega) (fresh_tb n 0)
 rcases open_law (d := D.fresh n) h1 rfl rfl hok (B := 0) (by decide) (fresh_tb n 0) with ⟨a1, Y, N, a2, a3, a4, a5, a6, a7, a8⟩ | ⟨_, a2, _⟩
 ·rw [hl] at a2 a3
  rw [hf] at a4
  subst a4
  exact ⟨a1, Y, a2, a3, a7, a8⟩
 ·cases a2
theorem append_ok {d : D.Dsk} {g : Nat} {recs : List (List UInt8)} (h : Live d g recs) (ha : d.armed = false) (b : List UInt8) (hb : b.length <= 8192) (hf : used recs + need b.length <= area d) :
 (append ⟨d, g, recs, false⟩ b).2 = 0 /\ ∃ Y, (append ⟨d, g, recs, false⟩ b).1 = ⟨Y, g, recs ++ [b], false⟩ /\ Live Y g (recs ++ [b]) /\ Y.n = d.n /\ Y.armed = false := by
 rcases append_law h b with ⟨_, h2⟩ | ⟨h1, Y, h2, h3, h4, h5⟩ | ⟨_, h2, _⟩
 ·rw [append_eq, if_neg (by decide), if_neg (by omega), if_neg (by omega)] at h2
  exfalso
  split at h2
  ·rcases h2 with h2 | h2 <;> exact absurd h2 (by simp only; decide)
  ·rename_i h9
   rcases appended_law false h hb hf with ⟨a1, _⟩ | ⟨a1, _⟩
   ·exact h9 a1
   ·simp only [a1] at h2
    rcases h2 with h2 | h2 <;> exact absurd h2 (by decide)
 ·exact ⟨h1, Y, h2, h3, h4, h5.trans ha⟩
 ·rw [ha] at h2; cases h2
end W5
end Go.Proofs.YtnjfioikpajhlaaGreat
