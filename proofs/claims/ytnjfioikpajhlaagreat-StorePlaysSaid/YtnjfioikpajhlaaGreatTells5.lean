import Derived.Test.YtnjfioikpajhlaaGreatMRef4
import Derived.Test.YtnjfioikpajhlaaGreatMBase
set_option maxRecDepth 100000
set_option maxHeartbeats 64000000
/- jetwaylaw04.Tells: a disk tells just what the document's does. -/
namespace Go.Proofs.YtnjfioikpajhlaaGreat
open Go.RowKit
theorem tells4 {w0 w : World} {X : Nat -> Prop} {p : Nat} {d : D.Dsk} {r : Ref4} {sv wv : Value} (h : Held w0 w X p d) (hr : RefAt w X r sv wv) (hrel4 : Rel d r) :
 Calls Tryz.prog 13 #[.pointer (some ⟨p, 0, none⟩), rv r sv wv] w fun e w' => e = .returned (.bool true) /\ Ext w w' := by
 have hrds := fun w i (h : Held w0 w X p d) (hr : RefAt w X r sv wv) => reads4 h hr hrel4 i
 have HD := qh h
 have HR := qh hr
 obtain ⟨sa, sn, sc, rfl⟩ := hr.safe.any
 obtain ⟨wa, wc', hwv⟩ := hr.wait.shape
 subst hwv
 have hwlen := hr.wait.len
 have hn := hrel4.n
 have hdn := hrel4.down
 have hwl : (d.wait.length : Int) = (r.wait.length : Int) := by rw [hrel4.wait]
 have hn2 := h.okd.n2
 have hn1 := h.okd.n1
 obtain ⟨n, safe, wait, armed, down, after⟩ := r
 unfold rv at *
 simp only at hrds hn hdn hwl hwlen ⊢
 rw [hn] at hn1 hn2
 have HRDS := qh hrds
 clear h hr hrel4 hrds
 have hx1 := Ext.of_alloc w (.cells #[.int .i64 n, .slice sa sn sc, .slice wa wait.length wc', .bool armed, .bool down, .int .i64 after] 33)
 obtain ⟨c0, c1, c2, c3, c4, c5, _⟩ := box_facts (one_box w #[.int .i64 n, .slice sa sn sc, .slice wa wait.length wc', .bool armed, .bool down, .int .i64 after] 33 (Ext.refl _))
 go_enter Tryz.func13, Tryz.ntmps13
 go_wp2_with fail
 generalize w.alloc (.cells #[.int .i64 n, .slice sa sn sc, .slice wa wait.length wc', .bool armed, .bool down, .int .i64 after] 33) = w1 at *
 have hHeld : Ext w w1.drew := hx1.trans (Ext.of_drew w1)
 replace HD := qh (HD.out.after_ext hx1)
 replace HR := qh (HR.out.ext hx1)
 have hHeld : Ext w1 w1.drew := Ext.of_drew w1
 refine wp_region_C (fun w' => Ext w1 w') 23 (by kernel_rfl) ?_
 (refine aC [1, 2, 4, 9, 11, 16, 23] (i := 0) (oi := ⟨some 6, _, _, _, _, _⟩) (v := ?_) rfl ?_ hHeld ?_; rotate_left; (focus (intro w hSw; (skip); go_simp; first | done | with_reducible rfl)); try simp only [Act.put, zB, zC, zD])
 (refine aC [2, 4, 9, 11, 16, 23] (i := 1) (oi := ⟨some 7, _, _, _, _, _⟩) (v := ?_) rfl ?_ hHeld ?_; rotate_left; (focus (intro w hSw; (skip); go_simp; first | done | with_reducible rfl)); try simp only [Act.put, zB, zC, zD])
 (refine aC [4, 9, 11, 16, 23] (i := 2) (oi := ⟨some 8, _, _, _, _, _⟩) (v := ?_) rfl ?_ hHeld ?_; rotate_left; (focus (intro w hSw; (skip); go_simp; first | done | with_reducible rfl)); try simp only [Act.put, zB, zC, zD])
 (refine aC [4, 9, 11, 16, 23] (i := 3) (oi := ⟨some 9, _, _, _, _, _⟩) (v := ?_) rfl ?_ hHeld ?_; rotate_left; (focus (intro w hSw; (skip); go_simp; first | done | with_reducible rfl)); try simp only [Act.put, zB, zC, zD])
 (refine aC [6, 7, 8, 9, 11, 16, 23] (i := 5) (oi := ⟨some 11, _, _, _, _, _⟩) (v := ?_) rfl ?_ hHeld ?_; rotate_left; (focus (intro w hSw; (skip); go_simp; first | done | with_reducible rfl)); try simp only [Act.put, zB, zC, zD])
 (refine aC [7, 8, 9, 11, 16, 23] (i := 6) (oi := ⟨some 12, _, _, _, _, _⟩) (v := ?_) rfl ?_ hHeld ?_; rotate_left; (focus (intro w hSw; (have q := hSw.cell c0); go_simp; first | done | with_reducible rfl)); try simp only [Act.put, zB, zC, zD])
 refine wpAnyC_one (i := 4) (oi := ⟨some 10, _, _, _, _, _⟩) rfl (by kernel_rfl) (by decide) (fun K hK => ?_)
 rw [if_pos (by rfl)]
 go_simp
 refine (held_size (HD.out.after_ext hHeld)).mono ?_
 rintro e wx ⟨rfl, rfl⟩
 rw [hn]
 refine hK.out _ _ hHeld ?_
 clear hK K
 try simp only [Act.put, zB, zC, zD]
 (refine aC [8, 9, 11, 16, 23] (i := 7) (oi := ⟨some 13, _, _, _, _, _⟩) (v := ?_) rfl ?_ hHeld ?_; rotate_left; (focus (intro w hSw; (skip); go_simp; first | done | with_reducible rfl)); try simp only [Act.put, zB, zC, zD])
 (refine aC [9, 11, 16, 23] (i := 8) (oi := ⟨some 14, _, _, _, _, _⟩) (v := ?_) rfl ?_ hHeld ?_; rotate_left; (focus (intro w hSw; (skip); go_simp; first | done | with_reducible rfl)); try simp only [Act.put, zB, zC, zD])
 (refine aC [11, 16, 23] (i := 9) (oi := ⟨some 15, _, _, _, _, _⟩) (v := ?_) rfl ?_ hHeld ?_; rotate_left; (focus (intro w hSw; (skip); go_simp; first | done | with_reducible rfl)); try simp only [Act.put, zB, zC, zD])
 (refine aC [11, 16, 23] (i := 10) (oi := ⟨some 16, _, _, _, _, _⟩) (v := ?_) rfl ?_ hHeld ?_; rotate_left; (focus (intro w hSw; (skip); go_simp; first | done | with_reducible rfl)); try simp only [Act.put, zB, zC, zD])
 (refine aC [13, 14, 15, 16, 23] (i := 12) (oi := ⟨some 18, _, _, _, _, _⟩) (v := ?_) rfl ?_ hHeld ?_; rotate_left; (focus (intro w hSw; (skip); go_simp; first | done | with_reducible rfl)); try simp only [Act.put, zB, zC, zD])
 (refine aC [14, 15, 16, 23] (i := 13) (oi := ⟨some 19, _, _, _, _, _⟩) (v := ?_) rfl ?_ hHeld ?_; rotate_left; (focus (intro w hSw; (have q := hSw.cell c4); go_simp; first | done | with_reducible rfl)); try simp only [Act.put, zB, zC, zD])
 refine wpAnyC_one (i := 11) (oi := ⟨some 17, _, _, _, _, _⟩) rfl (by kernel_rfl) (by decide) (fun K hK => ?_)
 rw [if_pos (by rfl)]
 go_simp
 refine (held_down (HD.out.after_ext hHeld)).mono ?_
 rintro e wx ⟨rfl, rfl⟩
 rw [hdn]
 refine hK.out _ _ hHeld ?_
 clear hK K
 try simp only [Act.put, zB, zC, zD]
 (refine aC [15, 16, 23] (i := 14) (oi := ⟨some 20, _, _, _, _, _⟩) (v := ?_) rfl ?_ hHeld ?_; rotate_left; (focus (intro w hSw; (skip); go_simp; first | done | with_reducible rfl)); try simp only [Act.put, zB, zC, zD])
 (refine aC [16, 23] (i := 15) (oi := ⟨some 21, _, _, _, _, _⟩) (v := ?_) rfl ?_ hHeld ?_; rotate_left; (focus (intro w hSw; (skip); go_simp; first | done | with_reducible rfl)); try simp only [Act.put, zB, zC, zD])
 (refine aC [23] (i := 16) (oi := ⟨some 22, _, _, _, _, _⟩) (v := ?_) rfl ?_ hHeld ?_; rotate_left; (focus (intro w hSw; (skip); go_simp; first | done | with_reducible rfl)); try simp only [Act.put, zB, zC, zD])
 (refine aC [18, 22, 23] (i := 17) (oi := ⟨some 23, _, _, _, _, _⟩) (v := ?_) rfl ?_ hHeld ?_; rotate_left; (focus (intro w hSw; (skip); go_simp; first | done | with_reducible rfl)); try simp only [Act.put, zB, zC, zD])
 (refine aC [20, 21, 22, 23] (i := 19) (oi := ⟨some 25, _, _, _, _, _⟩) (v := ?_) rfl ?_ hHeld ?_; rotate_left; (focus (intro w hSw; (skip); go_simp; first | done | with_reducible rfl)); try simp only [Act.put, zB, zC, zD])
 (refine aC [21, 22, 23] (i := 20) (oi := ⟨some 26, _, _, _, _, _⟩) (v := ?_) rfl ?_ hHeld ?_; rotate_left; (focus (intro w hSw; (have q := hSw.cell c2); go_simp; first | done | with_reducible rfl)); try simp only [Act.put, zB, zC, zD])
 (refine aC [22, 23] (i := 21) (oi := ⟨some 27, _, _, _, _, _⟩) (v := ?_) rfl ?_ hHeld ?_; rotate_left; (focus (intro w hSw; (skip); go_simp; first | done | with_reducible rfl)); try simp only [Act.put, zB, zC, zD])
 refine wpAnyC_one (i := 18) (oi := ⟨some 24, _, _, _, _, _⟩) rfl (by kernel_rfl) (by decide) (fun K hK => ?_)
 rw [if_pos (by rfl)]
 go_simp
 refine (held_waiting (HD.out.after_ext hHeld)).mono ?_
 rintro e wx ⟨rfl, rfl⟩
 rw [hwl]
 refine hK.out _ _ hHeld ?_
 clear hK K
 try simp only [Act.put, zB, zC, zD]
 (refine aC [23] (i := 22) (oi := ⟨some 28, _, _, _, _, _⟩) (v := ?_) rfl ?_ hHeld ?_; rotate_left; (focus (intro w hSw; (skip); go_simp; first | done | with_reducible rfl)); try simp only [Act.put, zB, zC, zD])
 refine wpAnyC_c (oi := ⟨some 29, _, _, _, _, _⟩) rfl (by kernel_rfl) (fun K hK => ?_)
 rw [if_pos (by rfl)]
 go_simp
 refine hK.out _ _ ?_
 clear hK K
 try simp only [Act.put, zB, zC, zD]
 refine wpAny_done (by kernel_rfl) ?_ _
 have HX2 := qh hHeld
 go_wp2
 go_loopw [5] (fun iv wr => ∃ k : Nat, (k : Int) <= n + 2 /\ iv = .int .i64 ((k : Int) - 1) /\ Hid (Ext w1 wr)) (fun iv _ => (n + 2).toNat - (intOf iv + 1).toNat)
 case atStart => exact ⟨0, by omega, rfl, HX2⟩
 case round =>
  obtain ⟨k, hk, rfl, hx⟩ := hrel
  have e0 := hx.out.cell c0
  have e1 := hx.out.cell c1
  have e2 := hx.out.cell c2
  have e3 := hx.out.cell c3
  have e4 := hx.out.cell c4
  have e5 := hx.out.cell c5
  by_cases hlt : (k : Int) - 1 <= n
  ·by_cases h40 : (k : Int) - 1 <= 40
   ·go_wp2_with fail
    refine (HRDS.out wr ((k : Int) - 1) (HD.out.after_ext hx.out) (HR.out.ext hx.out)).mono ?_
    rintro e w2 ⟨rfl, hx2⟩
    have HX3 := qh (hx.out.trans hx2)
    clear hx hx2 e0 e1 e2 e3 e4 e5
    go_wp2
    go_roundw
    case rel => exact ⟨k + 1, by omega, by go_num, HX3⟩
    case measure => (simp [intOf]; try omega)
   ·have HXF := qh (hx1.trans hx.out)
    go_wp2
    go_ret
    exact ⟨rfl, HXF.out⟩
  ·have HXF := qh (hx1.trans hx.out)
   go_wp2
   go_ret
   exact ⟨rfl, HXF.out⟩
end Go.Proofs.YtnjfioikpajhlaaGreat
