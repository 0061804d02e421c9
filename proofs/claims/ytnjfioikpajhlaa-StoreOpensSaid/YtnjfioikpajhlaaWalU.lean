import Derived.Test.YtnjfioikpajhlaaWalP
import Derived.Lib.SlBytesConst
import Derived.Lib.SliceRun
/- jetwaylaw05.awake; a log behind memory of the walk's own. -/
namespace Go.Proofs.Ytnjfioikpajhlaa
open Go.RowKit

section
variable {w0 w w1 : World} {X : Nat → Prop} {p q : Nat} {L : W5.Lg}
theorem Logd.all (h : Logd w0 w X p q L) (hx : Ext w w1) : Logd w0 w1 (New X w w1) p q L :=
  let ⟨⟨_Y, lv, vs, hY⟩, h2, h3, h4⟩ := h
  ⟨⟨_, lv, vs, hY.all hx⟩, h2, h3, h4⟩
theorem Logd.after (h : Logd w0 w X p q L) (hx : Ext w w1) : Logd w0 w1 X p q L :=
  let ⟨⟨Y, lv, vs, hY⟩, h2, h3, h4⟩ := h
  ⟨⟨Y, lv, vs, hY.ext hx⟩, h2, h3, h4⟩
theorem Logd.old (h : Logd w0 w X p q L) : ∀ k, k < w0.heap.size → X k :=
  let ⟨⟨_, _, _, hY⟩, _, _, _⟩ := h
  hY.old
theorem Logd.ok (h : Logd w0 w X p q L) : D.Ok L.d := h.held.okd
theorem append_new (h : Logd w0 w X p q L) (hx : Ext w w1) (v : Value) (b : List UInt8) (hb : Bs w1 v b) (hbX : ∀ k, v.ownBlock = some k → X k ∨ (w.heap.size ≤ k ∧ k < w1.heap.size)) (hwl : L.d.wait.length ≤ 1073600000) :
    Calls Try.prog 28 #[.pointer (some ⟨q, 0, none⟩), v] w1 fun e w' => e = .returned (.int .i64 (W5.append L b).2) ∧ Logd w0 w' X p q (W5.append L b).1 ∧ Keeps X w w' := by
  refine (append_any (h.all hx) v b hb hbX hwl).mono ?_
  rintro e w' ⟨he, hl, hk⟩
  exact ⟨he, hl.less (fun _ hk => .inl hk) h.old, (Keeps.of_ext hx).trans (hk.less (fun _ hk => .inl hk))⟩
theorem renew_new (h : Logd w0 w X p q L) (hx : Ext w w1) (v : Value) (ls : List (List UInt8)) (hv : RowsX w1 (New X w w1) v ls) (hll : ls.length ≤ 1000000) (hwl : L.d.wait.length ≤ 1073600000) :
    Calls Try.prog 40 #[.pointer (some ⟨q, 0, none⟩), v] w1 fun e w' => e = .returned (.int .i64 (W5.renew L ls).2) ∧ Logd w0 w' X p q (W5.renew L ls).1 ∧ Keeps X w w' := by
  refine (renew_any (h.all hx) v ls hv hll hwl).mono ?_
  rintro e w' ⟨he, hl, hk⟩
  exact ⟨he, hl.less (fun _ hk => .inl hk) h.old, (Keeps.of_ext hx).trans (hk.less (fun _ hk => .inl hk))⟩
theorem logd_room (h : Logd w0 w X p q L) : Calls Try.prog 39 #[.pointer (some ⟨q, 0, none⟩)] w fun e w' => e = .returned (.int .i64 ((W5.area L.d : Int) - (W5.used L.recs : Int))) ∧ Ext w w' := by
  have ho := h.ok
  have hf := h.fit
  have ha := W5.area_le L.d ho.n2
  obtain ⟨⟨Y, lv, vs, hY⟩, _, _, _⟩ := h
  exact room_any hY.held hY.at_.c0 (W5.used L.recs) (by omega) hY.at_.c2
end

namespace W5
theorem fresh_sector (n : Int) (i : Int) : D.sector (D.fresh n) i = List.replicate 512 0 := rfl
theorem fresh_tb (n : Int) (B : Nat) : Tb (D.fresh n) B := fun i _ h => by rw [fresh_sector, zero_silent] at h; cases h
theorem current_silent {d : D.Dsk} (h0 : tells (D.sector d ((0 : Nat) : Int)) = false) (h1 : tells (D.sector d ((1 : Nat) : Int)) = false) : current d = (0, false) := by
  have e : current d = curStep d (curStep d (0, false) 0) 1 := rfl
  have a : curStep d (0, false) 0 = (0, false) := by
    unfold curStep
    rw [if_neg]
    rintro ⟨_, b, _⟩
    rw [b, head_tells] at h0
    cases h0
  rw [e, a]
  unfold curStep
  rw [if_neg]
  rintro ⟨_, b, _⟩
  rw [b, head_tells] at h1
  cases h1
theorem fresh_open {n : Int} (h1 : 4 ≤ n) (hok : D.Ok (D.fresh n)) : (open_ (D.fresh n)).2 = 0 ∧ ∃ Y, (open_ (D.fresh n)).1 = ⟨Y, 1, [], false⟩ ∧ Live Y 1 [] ∧ Y.n = n ∧ Y.armed = false := by
  have hc : current (D.fresh n) = (0, false) := current_silent zero_silent zero_silent
  have hl : list (D.fresh n) = [] := by unfold list; rw [hc]; rfl
  have hf : following (D.fresh n) (current (D.fresh n)).1 = 1 := by
    rw [hc]
    exact following_live (show (0 : Int) ≤ n by omega) (fresh_tb n 0)
  rcases open_law (d := D.fresh n) h1 rfl rfl hok (B := 0) (by decide) (fresh_tb n 0) with ⟨a1, Y, N, a2, a3, a4, a5, a6, a7, a8⟩ | ⟨_, a2, _⟩
  · rw [hl] at a2 a3
    rw [hf] at a4
    subst a4
    exact ⟨a1, Y, a2, a3, a7, a8⟩
  · cases a2
theorem append_ok {d : D.Dsk} {g : Nat} {recs : List (List UInt8)} (h : Live d g recs) (ha : d.armed = false) (b : List UInt8) (hb : b.length ≤ 8192) (hf : used recs + need b.length ≤ area d) :
    (append ⟨d, g, recs, false⟩ b).2 = 0 ∧ ∃ Y, (append ⟨d, g, recs, false⟩ b).1 = ⟨Y, g, recs ++ [b], false⟩ ∧ Live Y g (recs ++ [b]) ∧ Y.n = d.n ∧ Y.armed = false := by
  rcases append_law h b with ⟨_, h2⟩ | ⟨h1, Y, h2, h3, h4, h5⟩ | ⟨_, h2, _⟩
  · rw [append_eq, if_neg (by decide), if_neg (by omega), if_neg (by omega)] at h2
    exfalso
    split at h2
    · rcases h2 with h2 | h2 <;> exact absurd h2 (by simp only; decide)
    · rename_i h9
      rcases appended_law false h hb hf with ⟨a1, _⟩ | ⟨a1, _⟩
      · exact h9 a1
      · simp only [a1] at h2
        rcases h2 with h2 | h2 <;> exact absurd h2 (by decide)
  · exact ⟨h1, Y, h2, h3, h4, h5.trans ha⟩
  · rw [ha] at h2; cases h2
theorem append_full {d : D.Dsk} {g : Nat} {recs : List (List UInt8)} (b : List UInt8) (hb : b.length ≤ 8192) (hf : area d < used recs + need b.length) : append ⟨d, g, recs, false⟩ b = (⟨d, g, recs, false⟩, 6) := by
  rw [append_eq, if_neg (by decide), if_neg (by omega), if_pos hf]
theorem append_size {d : D.Dsk} {g : Nat} {recs : List (List UInt8)} (b : List UInt8) (hb : 8192 < b.length) : append ⟨d, g, recs, false⟩ b = (⟨d, g, recs, false⟩, 2) := by
  rw [append_eq, if_neg (by decide), if_pos hb]
end W5
/-- A new row is the walk's own. -/
theorem new_own {X : Nat → Prop} {w w1 : World} (o : Obj) (n c : Nat) (hx : w.heap.size ≤ w1.heap.size) : ∀ k, (Value.slice (some ⟨w1.heap.size, 0, none⟩) n c).ownBlock = some k → X k ∨ (w.heap.size ≤ k ∧ k < (w1.alloc o).heap.size) := by
  intro k hk
  have : w1.heap.size = k := by simpa [Value.ownBlock] using hk
  subst this
  exact .inr ⟨hx, by simp⟩

theorem run_make_u8 (w : World) (n : Nat) (hn : n ≤ 281474976710656) : (Instr.makeSlice 59 (.int .i64 (n : Int)) (.int .i64 (n : Int))).run Try.prog w = .ok (.slice (some ⟨w.heap.size, 0, none⟩) n n) (w.alloc (.cells ((List.replicate n (0 : UInt8)).map byteVal).toArray 5)) := by
  obtain ⟨i0, hi0, hz0, hz1, hz2⟩ := info_parts info_u8
  have hb : (i0.bytes : Int) * (n : Int) ≤ 281474976710656 := by rw [hz2]; omega
  have hrun := run_make (P := Try.prog) (w := w) 59 5 i0 (.int .u8 0) Try.underlying59 hi0 hz0 .i64 .i64 (n : Int) (n : Int) (by omega) (by omega) hb (by omega)
  rw [Int.toNat_natCast, hz1, Nat.mul_one] at hrun
  rw [hrun, List.map_replicate]
  have e : madeCells (Value.int .u8 0).cells n = (List.replicate n (Value.int .u8 0)).toArray := madeCells_one _ n
  rw [e]
  rfl
end Go.Proofs.Ytnjfioikpajhlaa
