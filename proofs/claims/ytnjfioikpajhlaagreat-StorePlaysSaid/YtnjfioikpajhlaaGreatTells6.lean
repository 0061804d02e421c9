import Derived.Test.YtnjfioikpajhlaaGreatMSt5
import Derived.Deep.QuietTactic
set_option maxRecDepth 100000
set_option maxHeartbeats 64000000
/- The law's Tells, where all is told. (Printed by tools/mktells6.py.) -/
namespace Go.Proofs.YtnjfioikpajhlaaGreat
open Go.RowKit Go.Shelf
section
variable {w0 w : World} {X : Nat -> Prop} {p q : Nat} {S : S6.St}
theorem tells6_any (h : Stod w0 w X p q S) (g : G9) (pv : Value) (cl : Bool) (hP : RPs w pv S.l) :
 Calls Tryz.prog 16 #[.pointer (some ⟨q, 0, none⟩), s6v g pv S.num cl] w fun e w' => e = .returned (.bool true) /\ Ext w w' := by
 obtain ⟨_, pa, pc, rfl, _, hcell⟩ := hP.shape
 have HC := qh hcell
 have HPP := qh hP
 obtain ⟨hsr, hpk, hnm, hln⟩ := h.facts
 have HSR := qh hsr
 have HPK := qh hpk
 have hli : (S.l.length : Int) <= 200000 := by omega
 have HLN := qh hln
 obtain ⟨g0, g1, g2, g3, g4, g5, g6, g7, g8⟩ := g
 have hx1 := Ext.of_alloc w (.cells #[g0, g1, g2, g3, g4, g5, g6, g7, g8, .slice pa S.l.length pc, .int .u64 (S.num : Int), .bool cl] 41)
 have hb1 := heap_alloc_new w (.cells #[g0, g1, g2, g3, g4, g5, g6, g7, g8, .slice pa S.l.length pc, .int .u64 (S.num : Int), .bool cl] 41)
 obtain ⟨W1, hW1⟩ : ∃ W1, W1 = w.alloc (.cells #[g0, g1, g2, g3, g4, g5, g6, g7, g8, .slice pa S.l.length pc, .int .u64 (S.num : Int), .bool cl] 41) := ⟨_, rfl⟩
 rw [<- hW1] at hx1 hb1
 have k9 : W1.cell? ⟨w.heap.size, 9, none⟩ = some (.slice pa S.l.length pc) := (blk_cell hb1 9).trans rfl
 have k10 : W1.cell? ⟨w.heap.size, 10, none⟩ = some (.int .u64 (S.num : Int)) := (blk_cell hb1 10).trans rfl
 have HW1 := qh hW1
 have HX1 := qh hx1
 have HL := qh (h.after hx1)
 have HLE := qh (fun U (hU : Ext W1 U) => stod_len (HL.out.after hU))
 have HNU := qh (fun U (hU : Ext W1 U) => stod_number (HL.out.after hU))
 have hrg := fun U (hU : Ext W1 U) => stod_range (HL.out.after hU) [] []
 rw [S6.range_all] at hrg
 unfold strV at hrg
 have HRG := qh hrg
 clear h hcell hP hW1 hb1 hx1 hrg hsr hpk hnm
 unfold s6v
 go_enter Tryz.func16, Tryz.ntmps16
 go_upto_region 1 with fail
 rw [show w.alloc (.cells #[g0, g1, g2, g3, g4, g5, g6, g7, g8, .slice pa S.l.length pc, .int .u64 (S.num : Int), .bool cl] 41) = W1 from HW1.out.symm]
 clear HW1
 have hx0 := Ext.of_drew W1
 go_region_held3 (fun v => v.cell? ⟨w.heap.size, 9, none⟩ = some (.slice pa S.l.length pc) /\ v.cell? ⟨w.heap.size, 10, none⟩ = some (.int .u64 (S.num : Int))) (first
  | exact ⟨hx0.cell k9, hx0.cell k10⟩
  | exact ⟨(hx0.trans hx4).cell k9, (hx0.trans hx4).cell k10⟩
  | exact ⟨(hx0.trans hx5).cell k9, (hx0.trans hx5).cell k10⟩
  | exact ⟨((hx0.trans hx5).trans hx6).cell k9, ((hx0.trans hx5).trans hx6).cell k10⟩) (first
  | (go_at_call 22; refine (HLE.out _ hx0).mono ?_; rintro e w2 ⟨rfl, rfl⟩)
  | (go_at_call 23; refine (HNU.out _ hx0).mono ?_; rintro e w3 ⟨rfl, rfl⟩)
  | (go_at_call 19; refine (HRG.out _ hx0).mono ?_; rintro e w4 ⟨v4, us4, rfl, hP4, hx4⟩; obtain ⟨a4, c4, rfl⟩ := own_any hP4.row)
  | (go_at_call 18; refine (pairs6_ext hP4 hx4 (by have := HLN.out; omega) (fun p hp => by have := (HPK.out p hp).val; omega)).mono ?_; rintro e w5 ⟨v5, rfl, hown5, hx5⟩; obtain ⟨a5, c5, rfl⟩ := own_any hown5)
  | (go_at_call 17; refine (same6_any _ _ _ _ _ (RPs.of_own hown5) (HPP.out.ext (HX1.out.trans (hx0.trans hx5)))).mono ?_; rintro e w6 ⟨r6, rfl, hr6, hx6⟩; obtain rfl : r6 = true := (by simpa using hr6)))
 have HXE := qh ((hx0.trans hx5).trans hx6)
 clear hr6 hP4 hx4 hown5 hx5 hx6 hx0 HLE HNU HRG
 go_wp2_with fail
 go_loopw [5] (fun iv wr => ∃ i : Nat, i <= S.l.length /\ iv = .int .i64 (i : Int) /\ Hid (Ext W1 wr)) (fun iv _ => S.l.length - (intOf iv).toNat)
 case atStart => exact ⟨0, Nat.zero_le _, rfl, HXE.out⟩
 case round =>
  clear HXE
  obtain ⟨i, hi, rfl, hX⟩ := hrel
  have j9 := hX.out.cell k9
  by_cases hlt : i < S.l.length
  ·have hlti : (i : Int) < (S.l.length : Int) := by omega
   obtain ⟨b, off, rfl, d0, d1, d2⟩ := HC.out i hlt
   unfold strV at d0 d1
   have e0 := (HX1.out.trans hX.out).cell d0
   have hget := stod_get (HL.out.after hX.out) S.l[i].key
   rw [S6.look_mem HSR.out (List.getElem_mem hlt)] at hget
   generalize S.l[i] = x at *
   have hget2 : Calls Tryz.prog 21 #[.pointer (some ⟨q, 0, none⟩), .string ⟨x.key.toArray⟩] wr fun e w' => ∃ v' : Value, e = .returned (.tuple #[v', .int .u64 (x.ver : Int), .bool true]) /\ Ext wr w' /\ w'.ownsRow wr.heap.size 5 1 v' x.val.length (x.val.map byteVal) := hget
   have HG := qh hget2
   clear hget hget2
   go_wp2_with fail
   refine HG.out.mono ?_
   clear HG
   rintro e w6 ⟨v6, rfl, hx6, hr6⟩
   have hb6 : Bs w6 v6 x.val := Bs.of_own hr6
   have cv : ∀ W, Ext w6 W -> (convert 56 9 v6).run Tryz.prog W = .ok (.string ⟨x.val.toArray⟩) W := fun W hW => (hb6.ext hW).toString (P := Tryz.prog) 56 9 5 Tryz.underlying56 Tryz.underlying5 Tryz.underlying9
   obtain ⟨a6, c6, h6⟩ := hb6.shape
   subst h6
   have HX6 := qh (hX.out.trans hx6)
   have e1 := (HX1.out.trans HX6.out).cell d1
   have e2 := (HX1.out.trans HX6.out).cell d2
   replace j9 := HX6.out.cell k9
   clear hx6 hr6 hb6 hX d0 d1 d2 e0
   go_upto_region 7 with fail
   have hHeld := Ext.of_drew w6
   refine wp_region_C (fun w' => Ext w6 w') 22 (by kernel_rfl) ?_
   (refine aC [1, 8, 9, 19, 22] (i := 0) (oi := ⟨some 54, _, _, _, _, _⟩) (v := ?_) rfl ?_ hHeld ?_; rotate_left; (focus (intro w hSw; (skip); go_simp; first | done | with_reducible rfl)); try simp only [Act.put, zB, zC, zD])
   (refine aC [8, 9, 19, 22] (i := 1) (oi := ⟨some 55, _, _, _, _, _⟩) (v := ?_) rfl ?_ hHeld ?_; rotate_left; (focus (intro w hSw; ((have q := cv _ hSw)); go_simp; first | done | with_reducible rfl)); try simp only [Act.put, zB, zC, zD])
   (refine aC [3, 5, 6, 7, 8, 9, 19, 22] (i := 2) (oi := ⟨some 56, _, _, _, _, _⟩) (v := ?_) rfl ?_ hHeld ?_; rotate_left; (focus (intro w hSw; (skip); go_simp; first | done | with_reducible rfl)); try simp only [Act.put, zB, zC, zD])
   (refine aC [5, 6, 7, 8, 9, 19, 22] (i := 3) (oi := ⟨some 57, _, _, _, _, _⟩) (v := ?_) rfl ?_ hHeld ?_; rotate_left; (focus (intro w hSw; ((have q := hSw.cell j9)); go_simp; first | done | with_reducible rfl)); try simp only [Act.put, zB, zC, zD])
   (refine aC [5, 6, 7, 8, 9, 19, 22] (i := 4) (oi := ⟨some 58, _, _, _, _, _⟩) (v := ?_) rfl ?_ hHeld ?_; rotate_left; (focus (intro w hSw; (skip); go_simp; first | done | with_reducible rfl)); try simp only [Act.put, zB, zC, zD])
   (refine aC [6, 7, 8, 9, 19, 22] (i := 5) (oi := ⟨some 59, _, _, _, _, _⟩) (v := ?_) rfl ?_ hHeld ?_; rotate_left; (focus (intro w hSw; (skip); go_simp; first | done | with_reducible rfl)); try simp only [Act.put, zB, zC, zD])
   (refine aC [7, 8, 9, 19, 22] (i := 6) (oi := ⟨some 60, _, _, _, _, _⟩) (v := ?_) rfl ?_ hHeld ?_; rotate_left; (focus (intro w hSw; (skip); go_simp; first | done | with_reducible rfl)); try simp only [Act.put, zB, zC, zD])
   (refine aC [8, 9, 19, 22] (i := 7) (oi := ⟨some 61, _, _, _, _, _⟩) (v := ?_) rfl ?_ hHeld ?_; rotate_left; (focus (intro w hSw; ((have q := hSw.cell e1)); go_simp; first | done | with_reducible rfl)); try simp only [Act.put, zB, zC, zD])
   (refine aC [9, 19, 22] (i := 8) (oi := ⟨some 62, _, _, _, _, _⟩) (v := ?_) rfl ?_ hHeld ?_; rotate_left; (focus (intro w hSw; (skip); go_simp; first | done | with_reducible rfl)); try simp only [Act.put, zB, zC, zD])
   (refine aC [19, 22] (i := 9) (oi := ⟨some 63, _, _, _, _, _⟩) (v := ?_) rfl ?_ hHeld ?_; rotate_left; (focus (intro w hSw; (skip); go_simp; first | done | with_reducible rfl)); try simp only [Act.put, zB, zC, zD])
   (refine aC [17, 18, 19, 22] (i := 10) (oi := ⟨some 64, _, _, _, _, _⟩) (v := ?_) rfl ?_ hHeld ?_; rotate_left; (focus (intro w hSw; (skip); go_simp; first | done | with_reducible rfl)); try simp only [Act.put, zB, zC, zD])
   (refine aC [12, 14, 15, 16, 17, 18, 19, 22] (i := 11) (oi := ⟨some 65, _, _, _, _, _⟩) (v := ?_) rfl ?_ hHeld ?_; rotate_left; (focus (intro w hSw; (skip); go_simp; first | done | with_reducible rfl)); try simp only [Act.put, zB, zC, zD])
   (refine aC [14, 15, 16, 17, 18, 19, 22] (i := 12) (oi := ⟨some 66, _, _, _, _, _⟩) (v := ?_) rfl ?_ hHeld ?_; rotate_left; (focus (intro w hSw; ((have q := hSw.cell j9)); go_simp; first | done | with_reducible rfl)); try simp only [Act.put, zB, zC, zD])
   (refine aC [14, 15, 16, 17, 18, 19, 22] (i := 13) (oi := ⟨some 67, _, _, _, _, _⟩) (v := ?_) rfl ?_ hHeld ?_; rotate_left; (focus (intro w hSw; (skip); go_simp; first | done | with_reducible rfl)); try simp only [Act.put, zB, zC, zD])
   (refine aC [15, 16, 17, 18, 19, 22] (i := 14) (oi := ⟨some 68, _, _, _, _, _⟩) (v := ?_) rfl ?_ hHeld ?_; rotate_left; (focus (intro w hSw; (skip); go_simp; first | done | with_reducible rfl)); try simp only [Act.put, zB, zC, zD])
   (refine aC [16, 17, 18, 19, 22] (i := 15) (oi := ⟨some 69, _, _, _, _, _⟩) (v := ?_) rfl ?_ hHeld ?_; rotate_left; (focus (intro w hSw; (skip); go_simp; first | done | with_reducible rfl)); try simp only [Act.put, zB, zC, zD])
   (refine aC [17, 18, 19, 22] (i := 16) (oi := ⟨some 70, _, _, _, _, _⟩) (v := ?_) rfl ?_ hHeld ?_; rotate_left; (focus (intro w hSw; ((have q := hSw.cell e2)); go_simp; first | done | with_reducible rfl)); try simp only [Act.put, zB, zC, zD])
   (refine aC [18, 19, 22] (i := 17) (oi := ⟨some 71, _, _, _, _, _⟩) (v := ?_) rfl ?_ hHeld ?_; rotate_left; (focus (intro w hSw; (skip); go_simp; first | done | with_reducible rfl)); try simp only [Act.put, zB, zC, zD])
   (refine aC [19, 22] (i := 18) (oi := ⟨some 72, _, _, _, _, _⟩) (v := ?_) rfl ?_ hHeld ?_; rotate_left; (focus (intro w hSw; (skip); go_simp; first | done | with_reducible rfl)); try simp only [Act.put, zB, zC, zD])
   (refine aC [22] (i := 19) (oi := ⟨some 73, _, _, _, _, _⟩) (v := ?_) rfl ?_ hHeld ?_; rotate_left; (focus (intro w hSw; (skip); go_simp; first | done | with_reducible rfl)); try simp only [Act.put, zB, zC, zD])
   (refine aC [21, 22] (i := 20) (oi := ⟨some 74, _, _, _, _, _⟩) (v := ?_) rfl ?_ hHeld ?_; rotate_left; (focus (intro w hSw; (skip); go_simp; first | done | with_reducible rfl)); try simp only [Act.put, zB, zC, zD])
   (refine aC [22] (i := 21) (oi := ⟨some 75, _, _, _, _, _⟩) (v := ?_) rfl ?_ hHeld ?_; rotate_left; (focus (intro w hSw; (skip); go_simp; first | done | with_reducible rfl)); try simp only [Act.put, zB, zC, zD])
   refine wpAnyC_c (oi := ⟨some 76, _, _, _, _, _⟩) rfl (by kernel_rfl) (fun K hK => ?_)
   rw [if_pos (by rfl)]
   go_simp
   refine hK.out _ _ ?_
   clear hK K
   try simp only [Act.put, zB, zC, zD]
   refine wpAny_done (by kernel_rfl) ?_ _
   have HX9 := qh (HX6.out.trans hHeld)
   clear hHeld cv
   go_wp2_with fail
   exact ⟨⟨i + 1, by omega, by go_num, HX9⟩, by simp [intOf]; omega⟩
  ·have hge : ¬ (i : Int) < (S.l.length : Int) := by omega
   go_wp2_with fail
   go_ret
   exact ⟨rfl, HX1.out.trans hX.out⟩
end
end Go.Proofs.YtnjfioikpajhlaaGreat
