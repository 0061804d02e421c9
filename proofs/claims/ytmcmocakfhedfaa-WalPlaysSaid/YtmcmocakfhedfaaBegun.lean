/- jetwaylaw05.begun: with no script. A log behind turned memory of the walk's own. -/
import Derived.Test.YtmcmocakfhedfaaSameT
namespace Go.Proofs.Ytmcmocakfhedfaa
open Go.RowKit

section
variable {w0 w w' w1 : World} {X Y : Nat → Prop} {p q gen used : Nat} {d : D.Dsk} {lv : Value} {vs : List Value} {ls : List (List UInt8)} {cl : Bool} {L : W5.Lg}
/-- Memory apart from the log has turned. -/
theorem LogY.mod_in {F : Nat → Prop} (h : LogY w0 w X Y p q d gen used lv vs ls cl) (hm : Mod F w w') (hF : ∀ k, F k → X k ∧ w0.heap.size ≤ k) : LogY w0 w' (New X w w') (New Y w w') p q d gen used lv vs ls cl :=
  ⟨h.held.mod_all hm (fun k hk => ⟨h.sub k (hF k hk).1, (hF k hk).2⟩), fun k hk => hk.imp (h.sub k) id, h.at_.mod hm (fun k hk hf => (h.lf k hk).2 (hF k hf).1), fun k hk => ⟨.inl (h.lf k hk).1, fun hx => by
    rcases hx with hx | hx
    · exact (h.lf k hk).2 hx
    · have := (h.at_.lt hk).2; omega⟩, fun k hk => .inl (h.old k hk)⟩
theorem Logd.mod_in {F : Nat → Prop} (h : Logd w0 w X p q L) (hm : Mod F w w') (hF : ∀ k, F k → X k ∧ w0.heap.size ≤ k) : Logd w0 w' (New X w w') p q L :=
  let ⟨⟨Y, lv, vs, hY⟩, h2, h3, h4⟩ := h
  ⟨⟨_, lv, vs, hY.mod_in hm hF⟩, h2, h3, h4⟩
end

set_option maxRecDepth 100000 in
set_option maxHeartbeats 1600000 in
theorem begun_bad (n : Int) (w : World) (h : n < 4 ∨ 60 < n) :
    Calls Try.prog 15 #[.int .i64 n, .slice none 0 0] w fun e w' => e = .returned (.tuple #[.pointer none, .pointer none, .bool false]) ∧ Ext w w' := by
  by_cases h1 : n < 1 ∨ 4096 < n
  · have hb := disk_new_bad n w h1
    clear h h1
    go_enter Try.func15, Try.ntmps15
    go_wp2_with fail
    refine hb.mono ?_
    rintro e w1 ⟨rfl, rfl⟩
    go_wp2
    go_ret3
    exact ⟨rfl, Ext.refl w⟩
  · have hb := held_new n w (by omega) (by omega)
    go_enter Try.func15, Try.ntmps15
    go_wp2_with fail
    refine hb.mono ?_
    rintro e w1 ⟨rfl, hH⟩
    have HX := Lib.hid hH.ext
    clear hb hH
    by_cases h2 : n < 4
    · clear h h1
      go_wp2
      go_ret3
      exact ⟨rfl, HX.out⟩
    · have h3 : 60 < n := by omega
      have h4 : decide (n < 4) = false := decide_eq_false h2
      clear h h1 h2
      go_wp2
      go_ret3
      exact ⟨rfl, HX.out⟩
set_option maxRecDepth 100000 in
set_option maxHeartbeats 1600000 in
theorem begun_nil (n : Int) (w : World) (h1 : 4 ≤ n) (h2 : n ≤ 60) :
    Calls Try.prog 15 #[.int .i64 n, .slice none 0 0] w fun e w' => ∃ p q Y, e = .returned (.tuple #[.pointer (some ⟨p, 0, none⟩), .pointer (some ⟨q, 0, none⟩), .bool true]) ∧ Logd w w' (fun k => k < w.heap.size) p q ⟨Y, 1, [], false⟩ ∧ W5.Live Y 1 [] ∧ Y.n = n ∧ Y.armed = false := by
  have hb := held_new n w (by omega) (by omega)
  have d1 : decide (n < 4) = false := decide_eq_false (by omega)
  have d2 : decide (60 < n) = false := decide_eq_false (by omega)
  go_enter Try.func15, Try.ntmps15
  go_wp2_with fail
  refine hb.mono ?_
  rintro e w1 ⟨rfl, hH⟩
  obtain ⟨f1, Y, f2, f3, f4, f5⟩ := W5.fresh_open h1 hH.okd
  generalize w.heap.size + 1 = p at *
  have hop := open_any hH (Nat.zero_le _)
  have HOP := Lib.hid hop
  clear hop hH hb
  go_wp2_with fail
  unfold Opened at HOP
  refine HOP.out.mono ?_
  clear HOP
  rintro e w2 (⟨_, q, rfl, hq, hL, _⟩ | ⟨h9, _⟩)
  · rw [f2] at hL
    have HL := Lib.hid hL
    have HLV := Lib.hid f3
    clear hL f1 f2 f3 d1 d2 h1 h2
    go_wp2
    go_loopw [10] (fun iv wr => iv = .int .i64 0 ∧ wr = w2) (fun iv _ => 0)
    case atStart => exact ⟨rfl, rfl⟩
    case round =>
      obtain ⟨rfl, rfl⟩ := hrel
      go_wp2
      go_ret3
      exact ⟨p, q, Y, rfl, HL.out, HLV.out, f4, f5⟩
  · exact absurd f1 h9
end Go.Proofs.Ytmcmocakfhedfaa
