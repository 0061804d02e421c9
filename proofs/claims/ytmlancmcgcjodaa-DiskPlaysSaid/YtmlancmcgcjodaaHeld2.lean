/- What a disk that is up answers; the walk of jetwaylaw04.awake. -/
import Derived.Test.YtmlancmcgcjodaaHeld
import Derived.Test.YtmlancmcgcjodaaFull
namespace Go.Proofs.Ytmlancmcgcjodaa
open Go.RowKit

def D.Up (d : D.Dsk) : Prop := d.down = false ∧ d.armed = false
theorem D.up_done {d : D.Dsk} (h : D.Up d) : D.done d = true := by unfold D.done; rw [h.1, h.2]; rfl
theorem D.up_goes {d : D.Dsk} (h : D.Up d) : D.goes d = { d with after := wrap64 (d.after - 1) } := by
  unfold D.goes
  rw [h.1, h.2]
  simp
theorem D.up_write {d : D.Dsk} (h : D.Up d) (i : Int) (s : List UInt8) (h1 : 0 ≤ i) (h2 : i < d.n) (h3 : s.length = 512) :
    D.writeE d i s = 0 ∧ D.write d i s = { d with after := wrap64 (d.after - 1), wait := d.wait ++ [(i, s)] } := by
  have hb : ¬ (i < 0 ∨ d.n ≤ i ∨ s.length ≠ 512 ∨ d.down = true) := by rw [h.1]; simp; omega
  obtain ⟨e1, e2⟩ := D.write_not hb
  rw [e1, e2, D.up_done h, D.up_goes h]
  exact ⟨rfl, rfl⟩
theorem D.up_flush {d : D.Dsk} (h : D.Up d) : D.flushE d = 0 ∧ D.flush d = { d with after := wrap64 (d.after - 1), safe := D.over d.safe d.wait, wait := [] } := by
  unfold D.flushE D.flush
  rw [D.up_done h, D.up_goes h]
  exact ⟨rfl, rfl⟩
theorem D.up_read {d : D.Dsk} (h : D.Up d) (i : Int) (h1 : 0 ≤ i) (h2 : i < d.n) : D.readE d i = 0 ∧ D.readB d i = D.sector d i := by
  have hb : ¬ (i < 0 ∨ d.n ≤ i) := by omega
  unfold D.readE D.readB
  rw [if_neg hb, if_neg hb, h.1]
  exact ⟨rfl, rfl⟩

theorem Bs.const_one (w : World) (x : UInt8) (e : TypeId) (z : Int) (hz : z = (x.toNat : Int)) (fr : Nat × Nat) : Bs (w.alloc (.cells #[.int .u8 z] e fr)) (.slice (some ⟨w.heap.size, 0, none⟩) 1 1) [x] := by
  subst hz
  exact Bs.litM w [x] e fr (by simp [maxLen])

/-- A call of Full, and what follows of it. -/
theorem full_step (v : Value) (data : List UInt8) (w : World) (h : Bs w v data) :
    Calls Try.prog 11 #[v] w fun e w' => ∃ b, e = .returned (.slice (some ⟨b, 0, none⟩) 512 512) ∧ w.heap.size ≤ b ∧ b < w'.heap.size ∧ Bs w' (.slice (some ⟨b, 0, none⟩) 512 512) (D.full data) ∧ Ext w w' := by
  refine (full_any v data w h).mono ?_
  rintro e w1 ⟨rfl, ho, hx⟩
  exact ⟨_, rfl, Nat.le_refl _, (ho.lt w.heap.size rfl).2, Bs.of_own ho, hx⟩

theorem held_full (b : Nat) {w w1 w2 : World} {X : Nat → Prop} (hx : w.heap.size ≤ w1.heap.size) (hb : w1.heap.size ≤ b) (hb2 : b < w2.heap.size) : ∀ k, (Value.slice (some ⟨b, 0, none⟩) 512 512).ownBlock = some k → X k ∨ (w.heap.size ≤ k ∧ k < w2.heap.size) := fun k hk => .inr (by
    obtain rfl : b = k := by simpa [Value.ownBlock] using hk
    exact ⟨Nat.le_trans hx hb, hb2⟩)

set_option maxRecDepth 100000 in
set_option maxHeartbeats 3200000 in
theorem awake4 (w : World) : Calls Try.prog 8 #[] w fun e w' => e = .returned (.bool true) ∧ Ext w w' := by
  obtain ⟨A, hA⟩ : ∃ A, A = D.full [65] := ⟨_, rfl⟩
  obtain ⟨B, hB⟩ : ∃ B, B = D.full [66] := ⟨_, rfl⟩
  have hAl : A.length = 512 := by rw [hA]; exact full_len _
  have hBl : B.length = 512 := by rw [hB]; exact full_len _
  have hA5 : A[5]'(by omega) = 65 := by subst hA; rw [full_get]; rfl
  have hB5 : B[511]'(by omega) = 66 := by subst hB; rw [full_get]; rfl
  go_enter Try.func8, Try.ntmps8
  go_wp2_with fail
  refine (held_new 2 w (by omega) (by omega)).mono ?_
  rintro e w1 ⟨rfl, H1⟩
  generalize w.heap.size + 1 = p at *
  have HD := Lib.hid H1
  clear H1
  have k1 := Lib.run_convert_bytes_const (P := Try.prog) w1 31 5 #[.int .u8 65] 1 1 Try.underlying31 Try.underlying5
  have hb1 := Bs.const_one w1 65 5 65 rfl (1, 2)
  have hx1 := Ext.of_alloc w1 (.cells #[.int .u8 65] 5 (1, 2))
  go_wp2_with fail
  refine (full_step _ _ _ hb1).mono ?_
  rintro e w2 ⟨b, rfl, hb, hb2, hbs, hx2⟩
  rw [← hA] at hbs
  have HW := Lib.hid (held_write HD.out (hx1.trans hx2) 0 _ _ hbs (held_full b hx1.size hb hb2) (by simp [D.fresh]))
  clear k1 hb1 hx1 hb hb2 hbs hx2 HD
  go_wp2_with fail
  refine HW.out.mono ?_
  clear HW
  rintro e w3 ⟨rfl, hs, _⟩
  obtain ⟨e1, e2⟩ := D.up_write (d := D.fresh 2) ⟨rfl, rfl⟩ 0 A (by decide) (by decide) hAl
  rw [e1]
  have e2' : D.write (D.fresh 2) 0 A = ⟨2, fun _ => none, [(0, A)], false, false, _⟩ := e2
  rw [e2'] at hs
  generalize wrap64 _ = a1 at hs
  have HF := Lib.hid (held_flush hs)
  clear e1 e2 e2' hs
  go_wp2_with fail
  refine HF.out.mono ?_
  clear HF
  rintro e w4 ⟨rfl, hs, _⟩
  obtain ⟨e1, e2⟩ := D.up_flush (d := ⟨2, fun _ => none, [(0, A)], false, false, a1⟩) ⟨rfl, rfl⟩
  rw [e1]
  have e2' : D.flush ⟨2, fun _ => none, [(0, A)], false, false, a1⟩ = ⟨2, D.over (fun _ => none) [(0, A)], [], false, false, _⟩ := e2
  rw [e2'] at hs
  generalize wrap64 _ = a2 at hs
  have HD := Lib.hid hs
  clear e1 e2 e2' hs
  have k1 := Lib.run_convert_bytes_const (P := Try.prog) w4 31 5 #[.int .u8 66] 1 1 Try.underlying31 Try.underlying5
  have hb1 := Bs.const_one w4 66 5 66 rfl (1, 2)
  have hx1 := Ext.of_alloc w4 (.cells #[.int .u8 66] 5 (1, 2))
  go_wp2_with fail
  refine (full_step _ _ _ hb1).mono ?_
  rintro e w5 ⟨b5, rfl, hb, hb2, hbs, hx2⟩
  rw [← hB] at hbs
  have HW := Lib.hid (held_write HD.out (hx1.trans hx2) 0 _ _ hbs (held_full b5 hx1.size hb hb2) (by simp))
  clear k1 hb1 hx1 hb hb2 hbs hx2 HD
  go_wp2_with fail
  refine HW.out.mono ?_
  clear HW
  rintro e w6 ⟨rfl, hs, _⟩
  obtain ⟨e1, e2⟩ := D.up_write (d := ⟨2, D.over (fun _ => none) [(0, A)], [], false, false, a2⟩) ⟨rfl, rfl⟩ 0 B (by simp) (by simp) hBl
  rw [e1]
  have e2' : D.write ⟨2, D.over (fun _ => none) [(0, A)], [], false, false, a2⟩ 0 B = ⟨2, D.over (fun _ => none) [(0, A)], [(0, B)], false, false, _⟩ := e2
  rw [e2'] at hs
  generalize wrap64 _ = a3 at hs
  have HD := Lib.hid hs
  clear e1 e2 e2' hs
  have k1 := Lib.run_convert_bytes_const (P := Try.prog) w6 31 5 #[.int .u8 66] 1 1 Try.underlying31 Try.underlying5
  have hb1 := Bs.const_one w6 66 5 66 rfl (1, 2)
  have hx1 := Ext.of_alloc w6 (.cells #[.int .u8 66] 5 (1, 2))
  go_wp2_with fail
  refine (full_step _ _ _ hb1).mono ?_
  rintro e w7 ⟨b7, rfl, hb, hb2, hbs, hx2⟩
  rw [← hB] at hbs
  have HW := Lib.hid (held_write HD.out (hx1.trans hx2) 1 _ _ hbs (held_full b7 hx1.size hb hb2) (by simp))
  clear k1 hb1 hx1 hb hb2 hbs hx2 HD
  go_wp2_with fail
  refine HW.out.mono ?_
  clear HW
  rintro e w8 ⟨rfl, hs, _⟩
  obtain ⟨e1, e2⟩ := D.up_write (d := ⟨2, D.over (fun _ => none) [(0, A)], [(0, B)], false, false, a3⟩) ⟨rfl, rfl⟩ 1 B (by simp) (by simp) hBl
  rw [e1]
  have e2' : D.write ⟨2, D.over (fun _ => none) [(0, A)], [(0, B)], false, false, a3⟩ 1 B = ⟨2, D.over (fun _ => none) [(0, A)], [(0, B), (1, B)], false, false, _⟩ := e2
  rw [e2'] at hs
  generalize wrap64 _ = a4 at hs
  have HR := Lib.hid (held_restart hs (Ext.of_alloc w8 (.cells #[.bool false, .bool true] 4)) (.slice (some ⟨w8.heap.size, 0, none⟩) 2 2) [false, true] (Reads.row w8 [.bool false, .bool true] 4 (by simp [maxLen]) (by simp [Value.oneCell'])) (.inr fun k hk => .inr (by
    obtain rfl : w8.heap.size = k := by simpa [Value.ownBlock] using hk
    simp)))
  clear e1 e2 e2' hs
  go_wp2_with fail
  refine HR.out.mono ?_
  clear HR
  rintro e w9 ⟨rfl, hs, _⟩
  obtain ⟨d, hd⟩ : ∃ d, d = D.restart ⟨2, D.over (fun _ => none) [(0, A)], [(0, B), (1, B)], false, false, a4⟩ [false, true] := ⟨_, rfl⟩
  rw [← hd] at hs
  have hup : D.Up d := by rw [hd]; exact ⟨rfl, rfl⟩
  have hn : d.n = 2 := by rw [hd]; rfl
  have s0 : D.sector d 0 = A := by rw [hd]; rfl
  have s1 : D.sector d 1 = B := by rw [hd]; rfl
  clear hd
  obtain ⟨r1, r2⟩ := D.up_read hup 0 (by omega) (by omega)
  obtain ⟨r3, r4⟩ := D.up_read hup 1 (by omega) (by omega)
  rw [s0] at r2
  rw [s1] at r4
  have HD := Lib.hid hs
  clear hs
  go_wp2_with fail
  refine (held_read HD.out 0).mono ?_
  rintro e w10 ⟨v, rfl, hown, hx⟩
  rw [r1]
  rw [r2, hAl] at hown
  have HX10 := Lib.hid hx
  obtain ⟨g, cap, rfl, hg, hg2, _, _, hc⟩ := own_open hown (by omega)
  have hc0 := hc 5 (by omega)
  rw [List.getElem?_map, List.getElem?_eq_getElem (by omega), hA5] at hc0
  simp only [Option.map_some] at hc0
  have hc0' : w10.cell? ⟨g, 5, none⟩ = some (.int .u8 65) := hc0
  clear hc hown hc0
  go_wp2_with fail
  refine (held_read (HD.out.after_ext HX10.out) 1).mono ?_
  rintro e w11 ⟨v, rfl, hown, hx2⟩
  rw [r3]
  rw [r4, hBl] at hown
  obtain ⟨g2, cap2, rfl, hg3, hg4, _, _, hc⟩ := own_open hown (by omega)
  have hc1 := hc 511 (by omega)
  rw [List.getElem?_map, List.getElem?_eq_getElem (by omega), hB5] at hc1
  simp only [Option.map_some] at hc1
  have hc1' : w11.cell? ⟨g2, 511, none⟩ = some (.int .u8 66) := hc1
  have hc0 := hx2.cell hc0'
  have HXX := Lib.hid ((HD.out.ext.trans hx).trans hx2)
  clear hc hown hc1 hc0' hx hx2 HD HX10
  go_wp2
  go_ret
  exact ⟨rfl, HXX.out⟩
end Go.Proofs.Ytmlancmcgcjodaa
