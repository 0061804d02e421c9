/- jetwaylaw05.awake; a log behind memory of the walk's own. -/
import Derived.Test.YtmcmocakfhedfaaWalP
import Derived.Lib.SlBytesConst
import Derived.Lib.SliceRun
namespace Go.Proofs.Ytmcmocakfhedfaa
open Go.RowKit

section
variable {w0 w w1 : World} {X : Nat → Prop} {p q : Nat} {L : W5.Lg}
theorem Logd.all (h : Logd w0 w X p q L) (hx : Ext w w1) : Logd w0 w1 (New X w w1) p q L :=
  let ⟨⟨Y, lv, vs, hY⟩, h2, h3, h4⟩ := h
  ⟨⟨_, lv, vs, hY.all hx⟩, h2, h3, h4⟩
theorem Logd.after (h : Logd w0 w X p q L) (hx : Ext w w1) : Logd w0 w1 X p q L :=
  let ⟨⟨Y, lv, vs, hY⟩, h2, h3, h4⟩ := h
  ⟨⟨Y, lv, vs, hY.ext hx⟩, h2, h3, h4⟩
theorem Logd.old (h : Logd w0 w X p q L) : ∀ k, k < w0.heap.size → X k :=
  let ⟨⟨_, _, _, hY⟩, _, _, _⟩ := h
  hY.old
theorem Logd.ok (h : Logd w0 w X p q L) : D.Ok L.d := h.held.okd
theorem append_new (h : Logd w0 w X p q L) (hx : Ext w w1) (v : Value) (b : List UInt8) (hb : Bs w1 v b) (hbX : ∀ k, v.ownBlock = some k → X k ∨ (w.heap.size ≤ k ∧ k < w1.heap.size)) (hwl : L.d.wait.length ≤ 1073600000) :
    Calls Try.prog 17 #[.pointer (some ⟨q, 0, none⟩), v] w1 fun e w' => e = .returned (.int .i64 (W5.append L b).2) ∧ Logd w0 w' X p q (W5.append L b).1 ∧ Keeps X w w' := by
  refine (append_any (h.all hx) v b hb hbX hwl).mono ?_
  rintro e w' ⟨he, hl, hk⟩
  exact ⟨he, hl.less (fun _ hk => .inl hk) h.old, (Keeps.of_ext hx).trans (hk.less (fun _ hk => .inl hk))⟩
theorem renew_new (h : Logd w0 w X p q L) (hx : Ext w w1) (v : Value) (ls : List (List UInt8)) (hv : RowsX w1 (New X w w1) v ls) (hll : ls.length ≤ 1000000) (hwl : L.d.wait.length ≤ 1073600000) :
    Calls Try.prog 34 #[.pointer (some ⟨q, 0, none⟩), v] w1 fun e w' => e = .returned (.int .i64 (W5.renew L ls).2) ∧ Logd w0 w' X p q (W5.renew L ls).1 ∧ Keeps X w w' := by
  refine (renew_any (h.all hx) v ls hv hll hwl).mono ?_
  rintro e w' ⟨he, hl, hk⟩
  exact ⟨he, hl.less (fun _ hk => .inl hk) h.old, (Keeps.of_ext hx).trans (hk.less (fun _ hk => .inl hk))⟩
theorem logd_room (h : Logd w0 w X p q L) : Calls Try.prog 18 #[.pointer (some ⟨q, 0, none⟩)] w fun e w' => e = .returned (.int .i64 ((W5.area L.d : Int) - (W5.used L.recs : Int))) ∧ Ext w w' := by
  have ho := h.ok
  have hf := h.fit
  have ha := W5.area_le L.d ho.n2
  obtain ⟨⟨Y, lv, vs, hY⟩, _, _, _⟩ := h
  exact room_any hY.held hY.at_.c0 (W5.used L.recs) (by omega) hY.at_.c2
theorem logd_generation (h : Logd w0 w X p q L) : Calls Try.prog 23 #[.pointer (some ⟨q, 0, none⟩)] w fun e w' => e = .returned (.int .u32 (L.gen : Int)) ∧ w = w' := by
  obtain ⟨⟨Y, lv, vs, hY⟩, _, _, _⟩ := h
  exact generation_any q _ w hY.at_.c1
end

namespace W5
theorem fresh_sector (n : Int) (i : Int) : D.sector (D.fresh n) i = List.replicate 512 0 := rfl
theorem fresh_tb (n : Int) (B : Nat) : Tb (D.fresh n) B := fun i _ h => by rw [fresh_sector, zero_silent] at h; cases h
theorem current_silent {d : D.Dsk} (h0 : tells (D.sector d ((0 : Nat) : Int)) = false) (h1 : tells (D.sector d ((1 : Nat) : Int)) = false) : current d = (0, false) := by
  have e : current d = curStep d (curStep d (0, false) 0) 1 := rfl
  have a : curStep d (0, false) 0 = (0, false) := by
    unfold curStep
    rw [if_neg]
    rintro ⟨_, b, _⟩
    rw [b, head_tells] at h0
    cases h0
  rw [e, a]
  unfold curStep
  rw [if_neg]
  rintro ⟨_, b, _⟩
  rw [b, head_tells] at h1
  cases h1
theorem fresh_open {n : Int} (h1 : 4 ≤ n) (hok : D.Ok (D.fresh n)) : (open_ (D.fresh n)).2 = 0 ∧ ∃ Y, (open_ (D.fresh n)).1 = ⟨Y, 1, [], false⟩ ∧ Live Y 1 [] ∧ Y.n = n ∧ Y.armed = false := by
  have hc : current (D.fresh n) = (0, false) := current_silent zero_silent zero_silent
  have hl : list (D.fresh n) = [] := by unfold list; rw [hc]; rfl
  have hf : following (D.fresh n) (current (D.fresh n)).1 = 1 := by
    rw [hc]
    exact following_live (show (0 : Int) ≤ n by omega) (fresh_tb n 0)
  rcases open_law (d := D.fresh n) h1 rfl rfl hok (B := 0) (by decide) (fresh_tb n 0) with ⟨a1, Y, N, a2, a3, a4, a5, a6, a7, a8⟩ | ⟨_, a2, _⟩
  · rw [hl] at a2 a3
    rw [hf] at a4
    subst a4
    exact ⟨a1, Y, a2, a3, a7, a8⟩
  · cases a2
theorem append_ok {d : D.Dsk} {g : Nat} {recs : List (List UInt8)} (h : Live d g recs) (ha : d.armed = false) (b : List UInt8) (hb : b.length ≤ 8192) (hf : used recs + need b.length ≤ area d) :
    (append ⟨d, g, recs, false⟩ b).2 = 0 ∧ ∃ Y, (append ⟨d, g, recs, false⟩ b).1 = ⟨Y, g, recs ++ [b], false⟩ ∧ Live Y g (recs ++ [b]) ∧ Y.n = d.n ∧ Y.armed = false := by
  rcases append_law h b with ⟨_, h2⟩ | ⟨h1, Y, h2, h3, h4, h5⟩ | ⟨_, h2, _⟩
  · rw [append_eq, if_neg (by decide), if_neg (by omega), if_neg (by omega)] at h2
    exfalso
    split at h2
    · rcases h2 with h2 | h2 <;> exact absurd h2 (by simp only; decide)
    · rename_i h9
      rcases appended_law false h hb hf with ⟨a1, _⟩ | ⟨a1, _⟩
      · exact h9 a1
      · simp only [a1] at h2
        rcases h2 with h2 | h2 <;> exact absurd h2 (by decide)
  · exact ⟨h1, Y, h2, h3, h4, h5.trans ha⟩
  · rw [ha] at h2; cases h2
theorem append_full {d : D.Dsk} {g : Nat} {recs : List (List UInt8)} (b : List UInt8) (hb : b.length ≤ 8192) (hf : area d < used recs + need b.length) : append ⟨d, g, recs, false⟩ b = (⟨d, g, recs, false⟩, 6) := by
  rw [append_eq, if_neg (by decide), if_neg (by omega), if_pos hf]
theorem append_size {d : D.Dsk} {g : Nat} {recs : List (List UInt8)} (b : List UInt8) (hb : 8192 < b.length) : append ⟨d, g, recs, false⟩ b = (⟨d, g, recs, false⟩, 2) := by
  rw [append_eq, if_neg (by decide), if_pos hb]
end W5
/-- A new row is the walk's own. -/
theorem new_own {X : Nat → Prop} {w w1 : World} (o : Obj) (n c : Nat) (hx : w.heap.size ≤ w1.heap.size) : ∀ k, (Value.slice (some ⟨w1.heap.size, 0, none⟩) n c).ownBlock = some k → X k ∨ (w.heap.size ≤ k ∧ k < (w1.alloc o).heap.size) := by
  intro k hk
  have : w1.heap.size = k := by simpa [Value.ownBlock] using hk
  subst this
  exact .inr ⟨hx, by simp⟩

theorem run_make_u8 (w : World) (n : Nat) (hn : n ≤ 281474976710656) : (Instr.makeSlice 31 (.int .i64 (n : Int)) (.int .i64 (n : Int))).run Try.prog w = .ok (.slice (some ⟨w.heap.size, 0, none⟩) n n) (w.alloc (.cells ((List.replicate n (0 : UInt8)).map byteVal).toArray 5)) := by
  obtain ⟨i0, hi0, hz0, hz1, hz2⟩ := info_parts info_u8
  have hb : (i0.bytes : Int) * (n : Int) ≤ 281474976710656 := by rw [hz2]; omega
  have hrun := run_make (P := Try.prog) (w := w) 31 5 i0 (.int .u8 0) Try.underlying31 hi0 hz0 .i64 .i64 (n : Int) (n : Int) (by omega) (by omega) hb (by omega)
  rw [Int.toNat_natCast, hz1, Nat.mul_one] at hrun
  rw [hrun, List.map_replicate]
  have e : madeCells (Value.int .u8 0).cells n = (List.replicate n (Value.int .u8 0)).toArray := madeCells_one _ n
  rw [e]
  rfl
set_option maxRecDepth 100000 in
set_option maxHeartbeats 3200000 in
theorem awake5 (w : World) : Calls Try.prog 10 #[] w fun e w' => e = .returned (.bool true) ∧ Ext w w' := by
  go_enter Try.func10, Try.ntmps10
  go_wp2_with fail
  refine (held_new 8 w (by omega) (by omega)).mono ?_
  rintro e w1 ⟨rfl, H1⟩
  generalize w.heap.size + 1 = p at *
  obtain ⟨f1, Y, f2, f3, f4, f5⟩ := W5.fresh_open (n := 8) (by decide) H1.okd
  have hop := open_any H1 (Nat.zero_le _)
  have HOP := Lib.hid hop
  clear hop H1
  go_wp2_with fail
  unfold Opened at HOP
  refine HOP.out.mono ?_
  clear HOP
  rintro e w2 (⟨_, q, rfl, hq, hL, _⟩ | ⟨h9, _⟩)
  · rw [f2] at hL
    have HL := Lib.hid hL
    have ha3 : W5.area Y = 3 := by unfold W5.area; rw [f4]; rfl
    have hlive := Lib.hid f3
    clear hL f1 f2 f3
    obtain ⟨b, hb⟩ : ∃ b, b = List.replicate 492 (0 : UInt8) := ⟨_, rfl⟩
    have hbl : b.length = 492 := by rw [hb]; exact List.length_replicate
    have hbm : List.replicate 492 (Value.int .u8 0) = b.map byteVal := by rw [hb, List.map_replicate]; rfl
    have hbM := fun w => Bs.lit w b 5 (by rw [hbl]; simp [maxLen])
    rw [hbl] at hbM
    have HBM := Lib.hid hbM
    have hmk : ∀ w, (Instr.makeSlice 31 (.int .i64 492) (.int .i64 492)).run Try.prog w = .ok (.slice (some ⟨w.heap.size, 0, none⟩) 492 492) (w.alloc (.cells (b.map byteVal).toArray 5)) := by intro w; rw [hb]; exact run_make_u8 w 492 (by decide)
    clear hbm hb hbM
    go_wp2_with fail
    refine (append_new HL.out (Ext.of_alloc w2 _) _ b (HBM.out w2) (new_own _ _ _ (Nat.le_refl _)) (by simp only; rw [hlive.out.wait]; exact Nat.zero_le _)).mono ?_
    rintro e w3 ⟨rfl, hL3, hK3⟩
    have hnd : W5.need b.length = 2 := by rw [hbl]; rfl
    have hu1 : W5.used ([] ++ [b]) = 2 := by rw [W5.used_snoc, hnd]; rfl
    obtain ⟨e1, Y2, e2, lv2, n2, ar2⟩ := W5.append_ok hlive.out f5 b (by omega) (by rw [hnd, ha3]; show 0 + 2 ≤ 3; decide)
    rw [e2] at hL3
    rw [e1]
    have HL3 := Lib.hid hL3
    have HLV2 := Lib.hid lv2
    have ha3' : W5.area Y2 = 3 := by rw [W5.area_same n2]; exact ha3
    have hw2 := lv2.wait
    clear hL3 hK3 e1 e2 HL hlive lv2
    go_wp2_with fail
    refine (append_new HL3.out (Ext.of_alloc w3 _) _ b (HBM.out w3) (new_own _ _ _ (Nat.le_refl _)) (by simp only; rw [hw2]; exact Nat.zero_le _)).mono ?_
    rintro e w4 ⟨rfl, hL4, hK4⟩
    have hf4 := W5.append_full (d := Y2) (g := 1) (recs := [] ++ [b]) b (by omega) (by rw [hnd, hu1, ha3']; decide)
    rw [hf4] at hL4
    rw [hf4]
    have HL4 := Lib.hid hL4
    clear hL4 hK4 hf4 HL3 hmk
    have k1 := Lib.run_convert_bytes_const (P := Try.prog) w4 31 5 #[.int .u8 97, .int .u8 98] 2 2 Try.underlying31 Try.underlying5
    have hb1 : Bs (w4.alloc (.cells #[.int .u8 97, .int .u8 98] 5 (2, 3))) (.slice (some ⟨w4.heap.size, 0, none⟩) 2 2) [97, 98] := Bs.litM w4 [97, 98] 5 (2, 3) (by simp [maxLen])
    have hap := append_new HL4.out (Ext.of_alloc w4 (.cells #[.int .u8 97, .int .u8 98] 5 (2, 3))) _ _ hb1 (new_own _ _ _ (Nat.le_refl _)) (by simp only; rw [hw2]; exact Nat.zero_le _)
    have HAP := Lib.hid hap
    clear hap hb1
    go_wp2_with fail
    refine HAP.out.mono ?_
    clear HAP k1
    rintro e w5 ⟨rfl, hL5, hK5⟩
    obtain ⟨e1, Y3, e2, lv3, n3, ar3⟩ := W5.append_ok HLV2.out ar2 [97, 98] (by decide) (by rw [hu1, ha3']; decide)
    rw [e2] at hL5
    rw [e1]
    have HL5 := Lib.hid hL5
    have hu2 : W5.used ([] ++ [b] ++ [[97, 98]]) = 3 := by rw [W5.used_snoc, hu1]; rfl
    have ha5 : W5.area Y3 = 3 := by rw [W5.area_same n3]; exact ha3'
    have hrm := logd_room hL5
    simp only at hrm
    rw [hu2, ha5] at hrm
    have HRM := Lib.hid hrm
    clear hL5 hK5 e1 e2 HL4 HLV2 hrm
    go_wp2_with fail
    refine HRM.out.mono ?_
    clear HRM
    rintro e w6 ⟨rfl, hx6⟩
    have HL6 := Lib.hid (HL5.out.after hx6)
    clear hx6 HL5
    have hre := records_any HL6.out
    have HRE := Lib.hid hre
    clear hre
    go_wp2_with fail
    refine HRE.out.mono ?_
    clear HRE
    rintro e w7 ⟨v7, vs7, rfl, hR7, hx7⟩
    obtain ⟨_, a7, c7, rfl, _⟩ := (hR7.rows (X := fun _ => True) (fun _ _ _ => trivial)).shape
    have HL7 := Lib.hid (HL6.out.after hx7)
    clear hx7 HL6 hR7
    have hre := records_any HL7.out
    have HRE := Lib.hid hre
    clear hre
    go_wp2_with fail
    refine HRE.out.mono ?_
    clear HRE
    rintro e w8 ⟨v8, vs8, rfl, hR8, hx8⟩
    obtain ⟨_, a8, c8, rfl, hce⟩ := (hR8.rows (X := fun _ => True) (fun _ _ _ => trivial)).shape
    obtain ⟨b8, o8, rfl, -, u8, hcu, hbu, -⟩ := hce 1 (by simp)
    have HL8 := Lib.hid (HL7.out.after hx8)
    have hbu2 : Bs w8 u8 [97, 98] := by simpa using hbu
    have cv := hbu2.toString (P := Try.prog) 31 9 5 Try.underlying31 Try.underlying5 Try.underlying9
    obtain ⟨a9, c9, h9⟩ := hbu2.shape
    have h9' : u8 = .slice a9 2 c9 := h9
    subst h9'
    clear h9
    have hge := logd_generation HL8.out
    have HGE := Lib.hid hge
    have HXF := Lib.hid HL8.out.held.ext
    clear hx8 HL7 hR8 hce hbu hbu2 hge
    go_wp2_with fail
    refine HGE.out.mono ?_
    rintro e w9 ⟨rfl, rfl⟩
    go_wp2
    go_ret
    exact ⟨rfl, HXF.out⟩
  · exact absurd f1 h9
end Go.Proofs.Ytmcmocakfhedfaa
