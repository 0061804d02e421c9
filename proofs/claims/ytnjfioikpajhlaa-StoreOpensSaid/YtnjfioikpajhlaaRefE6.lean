import Derived.Test.YtnjfioikpajhlaaRefD6
/- The document's Apply. (Printed by tools/mkrefe6.py.) -/
namespace Go.Proofs.Ytnjfioikpajhlaa
open Go.RowKit Go.Shelf

theorem box12 {v : World} {b : Nat} {a0 a1 a2 a3 a4 a5 a6 a7 a8 a9 a10 a11 : Value} {e : TypeId} (h : v.heap[b]? = some (.cells #[a0, a1, a2, a3, a4, a5, a6, a7, a8, a9, a10, a11] e (0, 0))) :
    v.cell? ⟨b, 0, none⟩ = some a0 ∧ v.cell? ⟨b, 1, none⟩ = some a1 ∧ v.cell? ⟨b, 2, none⟩ = some a2 ∧ v.cell? ⟨b, 3, none⟩ = some a3 ∧ v.cell? ⟨b, 4, none⟩ = some a4 ∧ v.cell? ⟨b, 5, none⟩ = some a5 ∧ v.cell? ⟨b, 6, none⟩ = some a6 ∧ v.cell? ⟨b, 7, none⟩ = some a7 ∧ v.cell? ⟨b, 8, none⟩ = some a8 ∧ v.cell? ⟨b, 9, none⟩ = some a9 ∧ v.cell? ⟨b, 10, none⟩ = some a10 ∧ v.cell? ⟨b, 11, none⟩ = some a11 := by
  have h2 : v.heap[b]? = some (.cells [a0, a1, a2, a3, a4, a5, a6, a7, a8, a9, a10, a11].toArray e (0, 0)) := h
  exact ⟨blk_cell h2 0, blk_cell h2 1, blk_cell h2 2, blk_cell h2 3, blk_cell h2 4, blk_cell h2 5, blk_cell h2 6, blk_cell h2 7, blk_cell h2 8, blk_cell h2 9, blk_cell h2 10, blk_cell h2 11⟩
theorem one12 {g0 g1 g2 g3 g4 g5 g6 g7 g8 : Value} (h : g0.oneCell' = true ∧ g1.oneCell' = true ∧ g2.oneCell' = true ∧ g3.oneCell' = true ∧ g4.oneCell' = true ∧ g5.oneCell' = true ∧ g6.oneCell' = true ∧ g7.oneCell' = true ∧ g8.oneCell' = true) (a : Option Addr) (n c : Nat) (m : Int) (b : Bool) :
    (#[g0, g1, g2, g3, g4, g5, g6, g7, g8, .slice a n c, .int .u64 m, .bool b] : Array Value).all (·.oneCell') = true := by
  obtain ⟨h0, h1, h2, h3, h4, h5, h6, h7, h8⟩ := h
  refine all_oneCell_toArray (cs := [g0, g1, g2, g3, g4, g5, g6, g7, g8, .slice a n c, .int .u64 m, .bool b]) ?_
  intro v hv
  simp only [List.mem_cons, List.not_mem_nil, or_false] at hv
  rcases hv with rfl | rfl | rfl | rfl | rfl | rfl | rfl | rfl | rfl | rfl | rfl | rfl <;> first | assumption | rfl
theorem S6.apl_take (l : List S6.Pr) (n : Nat) (ws : List S6.Wr) (i : Nat) (h : i < ws.length) : S6.apl l n (ws.take (i + 1)) = S6.stepW n (S6.apl l n (ws.take i)) ws[i] := by
  rw [List.take_succ_eq_append_getElem h, S6.apl_snoc]

set_option maxRecDepth 100000 in
set_option maxHeartbeats 6400000 in
theorem refApply (w : World) (g : G9) (pv : Value) (num n : Nat) (cl : Bool) (l : List S6.Pr) (yv : Value) (ws : List S6.Wr) (hP : RPs w pv l) (hpX : ∀ k, pv.ownBlock = some k → k < w.heap.size) (hl : l.length ≤ 400000) (hs : S6.Srt l) (hy : RWs w yv ws) (hwl : ws.length ≤ 100000)
    (hg : g.g0.oneCell' = true ∧ g.g1.oneCell' = true ∧ g.g2.oneCell' = true ∧ g.g3.oneCell' = true ∧ g.g4.oneCell' = true ∧ g.g5.oneCell' = true ∧ g.g6.oneCell' = true ∧ g.g7.oneCell' = true ∧ g.g8.oneCell' = true) :
    Calls Try.prog 21 #[s6v g pv num cl, .int .u64 (n : Int), yv] w fun e w' => ∃ pv', e = .returned (s6v g pv' (max num n) cl) ∧ RPs w' pv' (S6.apl l n ws) ∧ (∀ k, pv'.ownBlock = some k → (pv.ownBlock = some k ∨ w.heap.size ≤ k) ∧ k < w'.heap.size) ∧ Ext w w' := by
  obtain ⟨_, pa0, pc0, rfl, _⟩ := hP.shape
  obtain ⟨_, ya, yc, rfl, hyc⟩ := hy.shape
  have HYC := Lib.hid hyc
  have hwli : (ws.length : Int) ≤ 100000 := by omega
  obtain ⟨g0, g1, g2, g3, g4, g5, g6, g7, g8⟩ := g
  simp only at hg
  have HSR := Lib.hid hs
  have hx1 := (Ext.of_alloc w (.cells #[g0, g1, g2, g3, g4, g5, g6, g7, g8, .slice pa0 l.length pc0, .int .u64 (num : Int), .bool cl] 37)).alloc (.cells #[.int .i64 0, .slice none 0 0, .slice none 0 0, .bool false, .bool false, .int .i64 0, .int .u32 0, .slice none 0 0, .bool false, .slice none 0 0, .int .u64 0, .bool false] 37)
  have hb1 := heap_alloc_new w (.cells #[g0, g1, g2, g3, g4, g5, g6, g7, g8, .slice pa0 l.length pc0, .int .u64 (num : Int), .bool cl] 37)
  have hz1 := heap_alloc_new (w.alloc (.cells #[g0, g1, g2, g3, g4, g5, g6, g7, g8, .slice pa0 l.length pc0, .int .u64 (num : Int), .bool cl] 37)) (.cells #[.int .i64 0, .slice none 0 0, .slice none 0 0, .bool false, .bool false, .int .i64 0, .int .u32 0, .slice none 0 0, .bool false, .slice none 0 0, .int .u64 0, .bool false] 37)
  have hs0 : (w.alloc (.cells #[g0, g1, g2, g3, g4, g5, g6, g7, g8, .slice pa0 l.length pc0, .int .u64 (num : Int), .bool cl] 37)).heap.size = w.heap.size + 1 := World.size_alloc _ _
  have hs1 : ((w.alloc (.cells #[g0, g1, g2, g3, g4, g5, g6, g7, g8, .slice pa0 l.length pc0, .int .u64 (num : Int), .bool cl] 37)).alloc (.cells #[.int .i64 0, .slice none 0 0, .slice none 0 0, .bool false, .bool false, .int .i64 0, .int .u32 0, .slice none 0 0, .bool false, .slice none 0 0, .int .u64 0, .bool false] 37)).heap.size = (w.alloc (.cells #[g0, g1, g2, g3, g4, g5, g6, g7, g8, .slice pa0 l.length pc0, .int .u64 (num : Int), .bool cl] 37)).heap.size + 1 := World.size_alloc _ _
  rw [hs0] at hz1 hs1
  have hb2 := (Below.block (B := (w.alloc (.cells #[g0, g1, g2, g3, g4, g5, g6, g7, g8, .slice pa0 l.length pc0, .int .u64 (num : Int), .bool cl] 37)).heap.size) (Ext.of_alloc (w.alloc (.cells #[g0, g1, g2, g3, g4, g5, g6, g7, g8, .slice pa0 l.length pc0, .int .u64 (num : Int), .bool cl] 37)) (.cells #[.int .i64 0, .slice none 0 0, .slice none 0 0, .bool false, .bool false, .int .i64 0, .int .u32 0, .slice none 0 0, .bool false, .slice none 0 0, .int .u64 0, .bool false] 37)) w.heap.size (by omega)).trans hb1
  obtain ⟨W1, hW1⟩ : ∃ W1, W1 = (w.alloc (.cells #[g0, g1, g2, g3, g4, g5, g6, g7, g8, .slice pa0 l.length pc0, .int .u64 (num : Int), .bool cl] 37)).alloc (.cells #[.int .i64 0, .slice none 0 0, .slice none 0 0, .bool false, .bool false, .int .i64 0, .int .u32 0, .slice none 0 0, .bool false, .slice none 0 0, .int .u64 0, .bool false] 37) := ⟨_, rfl⟩
  rw [← hW1] at hx1 hb2 hz1 hs1
  have HX1 := Lib.hid hx1
  have HW1 := Lib.hid hW1
  have HB1 := Lib.hid hb2
  have HZ1 := Lib.hid hz1
  have HP1 := Lib.hid (hP.ext hx1)
  have HPX := Lib.hid hpX
  have HS1 := Lib.hid hs1
  clear hyc hs hW1 hx1 hb1 hz1 hb2 hs0 hs1 hP hpX hy
  unfold s6v
  go_enter Try.func21, Try.ntmps21
  go_upto_region 1 with fail
  rw [show (w.alloc (.cells #[g0, g1, g2, g3, g4, g5, g6, g7, g8, .slice pa0 l.length pc0, .int .u64 (num : Int), .bool cl] 37)).alloc (.cells #[.int .i64 0, .slice none 0 0, .slice none 0 0, .bool false, .bool false, .int .i64 0, .int .u32 0, .slice none 0 0, .bool false, .slice none 0 0, .int .u64 0, .bool false] 37) = W1 from HW1.out.symm]
  clear HW1
  go_wp2_with fail
  go_loopw [7] (fun iv wr => ∃ (i : Nat) (pa : Option Addr) (pc : Nat), i ≤ ws.length ∧ iv = .int .i64 (i : Int) ∧ (S6.apl l n (ws.take i)).length ≤ l.length + i ∧ Hid (S6.Srt (S6.apl l n (ws.take i))) ∧ Hid (Mod (fun k => k = w.heap.size) W1 wr) ∧ Hid (wr.heap[w.heap.size]? = some (.cells #[g0, g1, g2, g3, g4, g5, g6, g7, g8, .slice pa (S6.apl l n (ws.take i)).length pc, .int .u64 (num : Int), .bool cl] 37 (0, 0))) ∧ Hid (RPs wr (.slice pa (S6.apl l n (ws.take i)).length pc) (S6.apl l n (ws.take i))) ∧ Hid (∀ k, (Value.slice pa (S6.apl l n (ws.take i)).length pc).ownBlock = some k → (k ≠ w.heap.size ∧ k ≠ w.heap.size + 1 ∧ k < wr.heap.size) ∧ ((Value.slice pa0 l.length pc0).ownBlock = some k ∨ w.heap.size ≤ k))) (fun iv _ => ws.length - (intOf iv).toNat)
  case atStart => exact ⟨0, pa0, pc0, Nat.zero_le _, rfl, Nat.le_refl _, HSR.out, Mod.refl _ _, HB1, HP1, (show ∀ k, (Value.slice pa0 l.length pc0).ownBlock = some k → _ from fun k hk => ⟨by have := HPX.out k hk; have := HS1.out; omega, .inl hk⟩)⟩
  case round =>
    obtain ⟨i, pa, pc, hi, rfl, hlen, HSI, HM, HBK, HR, HO⟩ := hrel
    have hM := HM.out.size
    by_cases hlt : i < ws.length
    · have hlti : (i : Int) < (ws.length : Int) := by omega
      obtain ⟨yb, yo, rfl, y0, y1, y2, -⟩ := HYC.out i hlt
      have hyb : yb < w.heap.size := World.block_lt_of_cell? w _ y0
      replace y0 := HM.out.cell (HX1.out.cell y0) (fun e : yb = w.heap.size => by omega)
      replace y1 := HM.out.cell (HX1.out.cell y1) (fun e : yb = w.heap.size => by omega)
      replace y2 := HM.out.cell (HX1.out.cell y2) (fun e : yb = w.heap.size => by omega)
      unfold strV at y0 y1
      have hat := S6.apl_take l n ws i hlt
      rw [← S6.laidF_step] at hat
      have hsl := S6.stepW_len n (S6.apl l n (ws.take i)) ws[i]
      rw [← S6.laidF_step] at hsl
      have hsr := S6.stepW_srt HSI.out n ws[i]
      rw [← S6.laidF_step] at hsr
      generalize ws[i] = y at *
      have HAT := Lib.hid hat
      clear hat
      generalize S6.apl l n (ws.take i) = li at *
      have HLD := Lib.hid (fun W (hW : Ext wr W) => refLaid W _ li ⟨y.key, y.val, n⟩ (!y.drop) (HR.out.ext hW) (by omega) HSI.out)
      have q9 := (blk_cell HBK.out 9).trans rfl
      generalize y.drop = dr at *
      have HSL := Lib.hid hsl
      have HSRT := Lib.hid hsr
      have hsz := HS1.out
      clear hsl hsr HR HSI hyb
      go_upto_region 4 with fail
      have hHeld := Ext.of_drew wr
      refine wp_region_C (fun w' => Ext wr w') 22 (by kernel_rfl) ?_
      (refine wpAnyC_take [22] (i := 0) (oi := ⟨some 14, _, _, _, _, _⟩) (v := ?_) rfl (by kernel_rfl) (by kernel_rfl) (by kernel_rfl) (by kernel_rfl) (fun _ _ _ h => h) (Or.inl ⟨by rfl, ?_⟩) hHeld ?_; rotate_left; (focus (intro w hSw; (skip); go_simp; first | done | with_reducible rfl)); try simp only [Act.put, List.setIfInBounds_toArray, List.set_cons_zero, List.set_cons_succ])
      (refine wpAnyC_take [22] (i := 1) (oi := ⟨some 15, _, _, _, _, _⟩) (v := ?_) rfl (by kernel_rfl) (by kernel_rfl) (by kernel_rfl) (by kernel_rfl) (fun _ _ _ h => h) (Or.inl ⟨by rfl, ?_⟩) hHeld ?_; rotate_left; (focus (intro w hSw; ((have q := hSw.cell q9)); go_simp; first | done | with_reducible rfl)); try simp only [Act.put, List.setIfInBounds_toArray, List.set_cons_zero, List.set_cons_succ])
      (refine wpAnyC_take [22] (i := 2) (oi := ⟨some 16, _, _, _, _, _⟩) (v := ?_) rfl (by kernel_rfl) (by kernel_rfl) (by kernel_rfl) (by kernel_rfl) (fun _ _ _ h => h) (Or.inl ⟨by rfl, ?_⟩) hHeld ?_; rotate_left; (focus (intro w hSw; (skip); go_simp; first | done | with_reducible rfl)); try simp only [Act.put, List.setIfInBounds_toArray, List.set_cons_zero, List.set_cons_succ])
      (refine wpAnyC_take [22] (i := 3) (oi := ⟨some 17, _, _, _, _, _⟩) (v := ?_) rfl (by kernel_rfl) (by kernel_rfl) (by kernel_rfl) (by kernel_rfl) (fun _ _ _ h => h) (Or.inl ⟨by rfl, ?_⟩) hHeld ?_; rotate_left; (focus (intro w hSw; (skip); go_simp; first | done | with_reducible rfl)); try simp only [Act.put, List.setIfInBounds_toArray, List.set_cons_zero, List.set_cons_succ])
      (refine wpAnyC_take [22] (i := 4) (oi := ⟨some 18, _, _, _, _, _⟩) (v := ?_) rfl (by kernel_rfl) (by kernel_rfl) (by kernel_rfl) (by kernel_rfl) (fun _ _ _ h => h) (Or.inl ⟨by rfl, ?_⟩) hHeld ?_; rotate_left; (focus (intro w hSw; (skip); go_simp; first | done | with_reducible rfl)); try simp only [Act.put, List.setIfInBounds_toArray, List.set_cons_zero, List.set_cons_succ])
      (refine wpAnyC_take [22] (i := 5) (oi := ⟨some 19, _, _, _, _, _⟩) (v := ?_) rfl (by kernel_rfl) (by kernel_rfl) (by kernel_rfl) (by kernel_rfl) (fun _ _ _ h => h) (Or.inl ⟨by rfl, ?_⟩) hHeld ?_; rotate_left; (focus (intro w hSw; (skip); go_simp; first | done | with_reducible rfl)); try simp only [Act.put, List.setIfInBounds_toArray, List.set_cons_zero, List.set_cons_succ])
      (refine wpAnyC_take [22] (i := 6) (oi := ⟨some 20, _, _, _, _, _⟩) (v := ?_) rfl (by kernel_rfl) (by kernel_rfl) (by kernel_rfl) (by kernel_rfl) (fun _ _ _ h => h) (Or.inl ⟨by rfl, ?_⟩) hHeld ?_; rotate_left; (focus (intro w hSw; ((have q := hSw.cell y0)); go_simp; first | done | with_reducible rfl)); try simp only [Act.put, List.setIfInBounds_toArray, List.set_cons_zero, List.set_cons_succ])
      (refine wpAnyC_take [22] (i := 7) (oi := ⟨some 21, _, _, _, _, _⟩) (v := ?_) rfl (by kernel_rfl) (by kernel_rfl) (by kernel_rfl) (by kernel_rfl) (fun _ _ _ h => h) (Or.inl ⟨by rfl, ?_⟩) hHeld ?_; rotate_left; (focus (intro w hSw; (skip); go_simp; first | done | with_reducible rfl)); try simp only [Act.put, List.setIfInBounds_toArray, List.set_cons_zero, List.set_cons_succ])
      (refine wpAnyC_take [22] (i := 8) (oi := ⟨some 22, _, _, _, _, _⟩) (v := ?_) rfl (by kernel_rfl) (by kernel_rfl) (by kernel_rfl) (by kernel_rfl) (fun _ _ _ h => h) (Or.inl ⟨by rfl, ?_⟩) hHeld ?_; rotate_left; (focus (intro w hSw; (skip); go_simp; first | done | with_reducible rfl)); try simp only [Act.put, List.setIfInBounds_toArray, List.set_cons_zero, List.set_cons_succ])
      (refine wpAnyC_take [22] (i := 9) (oi := ⟨some 23, _, _, _, _, _⟩) (v := ?_) rfl (by kernel_rfl) (by kernel_rfl) (by kernel_rfl) (by kernel_rfl) (fun _ _ _ h => h) (Or.inl ⟨by rfl, ?_⟩) hHeld ?_; rotate_left; (focus (intro w hSw; (skip); go_simp; first | done | with_reducible rfl)); try simp only [Act.put, List.setIfInBounds_toArray, List.set_cons_zero, List.set_cons_succ])
      (refine wpAnyC_take [22] (i := 10) (oi := ⟨some 24, _, _, _, _, _⟩) (v := ?_) rfl (by kernel_rfl) (by kernel_rfl) (by kernel_rfl) (by kernel_rfl) (fun _ _ _ h => h) (Or.inl ⟨by rfl, ?_⟩) hHeld ?_; rotate_left; (focus (intro w hSw; (skip); go_simp; first | done | with_reducible rfl)); try simp only [Act.put, List.setIfInBounds_toArray, List.set_cons_zero, List.set_cons_succ])
      (refine wpAnyC_take [22] (i := 11) (oi := ⟨some 25, _, _, _, _, _⟩) (v := ?_) rfl (by kernel_rfl) (by kernel_rfl) (by kernel_rfl) (by kernel_rfl) (fun _ _ _ h => h) (Or.inl ⟨by rfl, ?_⟩) hHeld ?_; rotate_left; (focus (intro w hSw; ((have q := hSw.cell y1)); go_simp; first | done | with_reducible rfl)); try simp only [Act.put, List.setIfInBounds_toArray, List.set_cons_zero, List.set_cons_succ])
      (refine wpAnyC_take [22] (i := 12) (oi := ⟨some 26, _, _, _, _, _⟩) (v := ?_) rfl (by kernel_rfl) (by kernel_rfl) (by kernel_rfl) (by kernel_rfl) (fun _ _ _ h => h) (Or.inl ⟨by rfl, ?_⟩) hHeld ?_; rotate_left; (focus (intro w hSw; (skip); go_simp; first | done | with_reducible rfl)); try simp only [Act.put, List.setIfInBounds_toArray, List.set_cons_zero, List.set_cons_succ])
      (refine wpAnyC_take [22] (i := 13) (oi := ⟨some 27, _, _, _, _, _⟩) (v := ?_) rfl (by kernel_rfl) (by kernel_rfl) (by kernel_rfl) (by kernel_rfl) (fun _ _ _ h => h) (Or.inl ⟨by rfl, ?_⟩) hHeld ?_; rotate_left; (focus (intro w hSw; (skip); go_simp; first | done | with_reducible rfl)); try simp only [Act.put, List.setIfInBounds_toArray, List.set_cons_zero, List.set_cons_succ])
      (refine wpAnyC_take [22] (i := 14) (oi := ⟨some 28, _, _, _, _, _⟩) (v := ?_) rfl (by kernel_rfl) (by kernel_rfl) (by kernel_rfl) (by kernel_rfl) (fun _ _ _ h => h) (Or.inl ⟨by rfl, ?_⟩) hHeld ?_; rotate_left; (focus (intro w hSw; (skip); go_simp; first | done | with_reducible rfl)); try simp only [Act.put, List.setIfInBounds_toArray, List.set_cons_zero, List.set_cons_succ])
      (refine wpAnyC_take [22] (i := 15) (oi := ⟨some 29, _, _, _, _, _⟩) (v := ?_) rfl (by kernel_rfl) (by kernel_rfl) (by kernel_rfl) (by kernel_rfl) (fun _ _ _ h => h) (Or.inl ⟨by rfl, ?_⟩) hHeld ?_; rotate_left; (focus (intro w hSw; (skip); go_simp; first | done | with_reducible rfl)); try simp only [Act.put, List.setIfInBounds_toArray, List.set_cons_zero, List.set_cons_succ])
      (refine wpAnyC_take [22] (i := 16) (oi := ⟨some 30, _, _, _, _, _⟩) (v := ?_) rfl (by kernel_rfl) (by kernel_rfl) (by kernel_rfl) (by kernel_rfl) (fun _ _ _ h => h) (Or.inl ⟨by rfl, ?_⟩) hHeld ?_; rotate_left; (focus (intro w hSw; (skip); go_simp; first | done | with_reducible rfl)); try simp only [Act.put, List.setIfInBounds_toArray, List.set_cons_zero, List.set_cons_succ])
      (refine wpAnyC_take [22] (i := 17) (oi := ⟨some 31, _, _, _, _, _⟩) (v := ?_) rfl (by kernel_rfl) (by kernel_rfl) (by kernel_rfl) (by kernel_rfl) (fun _ _ _ h => h) (Or.inl ⟨by rfl, ?_⟩) hHeld ?_; rotate_left; (focus (intro w hSw; (skip); go_simp; first | done | with_reducible rfl)); try simp only [Act.put, List.setIfInBounds_toArray, List.set_cons_zero, List.set_cons_succ])
      (refine wpAnyC_take [22] (i := 18) (oi := ⟨some 32, _, _, _, _, _⟩) (v := ?_) rfl (by kernel_rfl) (by kernel_rfl) (by kernel_rfl) (by kernel_rfl) (fun _ _ _ h => h) (Or.inl ⟨by rfl, ?_⟩) hHeld ?_; rotate_left; (focus (intro w hSw; ((have q := hSw.cell y2)); go_simp; first | done | with_reducible rfl)); try simp only [Act.put, List.setIfInBounds_toArray, List.set_cons_zero, List.set_cons_succ])
      (refine wpAnyC_take [22] (i := 19) (oi := ⟨some 33, _, _, _, _, _⟩) (v := ?_) rfl (by kernel_rfl) (by kernel_rfl) (by kernel_rfl) (by kernel_rfl) (fun _ _ _ h => h) (Or.inl ⟨by rfl, ?_⟩) hHeld ?_; rotate_left; (focus (intro w hSw; (skip); go_simp; first | done | with_reducible rfl)); try simp only [Act.put, List.setIfInBounds_toArray, List.set_cons_zero, List.set_cons_succ])
      refine wpAnyC_one (i := 20) (oi := ⟨some 34, _, _, _, _, _⟩) rfl (by kernel_rfl) (by decide) (fun K hK => ?_)
      rw [if_pos (by rfl)]
      go_simp
      refine (HLD.out _ hHeld).mono ?_
      rintro e w5 ⟨v5, rfl, hown5, hx5⟩
      obtain ⟨a5, c5, rfl⟩ := own_any hown5
      have hHeld2 := hHeld.trans hx5
      have hdr := hHeld.size
      refine hK.out _ _ hHeld2 ?_
      clear hHeld
      have hHeld := hHeld2
      clear hHeld2
      clear hK K
      try simp only [Act.put, List.setIfInBounds_toArray, List.set_cons_zero, List.set_cons_succ]
      (refine wpAnyC_take [22] (i := 21) (oi := ⟨some 35, _, _, _, _, _⟩) (v := ?_) rfl (by kernel_rfl) (by kernel_rfl) (by kernel_rfl) (by kernel_rfl) (fun _ _ _ h => h) (Or.inl ⟨by rfl, ?_⟩) hHeld ?_; rotate_left; (focus (intro w hSw; (skip); go_simp; first | done | with_reducible rfl)); try simp only [Act.put, List.setIfInBounds_toArray, List.set_cons_zero, List.set_cons_succ])
      have hb5 := (Below.block (B := wr.heap.size) hHeld w.heap.size (blk_lt HBK.out)).trans HBK.out
      have q9b := (blk_cell hb5 9).trans rfl
      have q9f := blk_free hb5 9
      refine wpAnyC_c (oi := ⟨none, _, _, _, _, _⟩) rfl (by kernel_rfl) (fun K hK => ?_)
      rw [if_pos (by rfl)]
      go_simp
      refine hK.out _ _ ?_
      clear hK K
      try simp only [Act.put, List.setIfInBounds_toArray, List.set_cons_zero, List.set_cons_succ]
      refine wpAny_done (by kernel_rfl) ?_ _
      have hb6 := blk_set hb5 9 (.slice a5 (S6.laidF li ⟨y.key, y.val, n⟩ (!dr)).length c5)
      have HB6 : Hid ((w5.setCell ⟨w.heap.size, 9, none⟩ (.slice a5 (S6.laidF li ⟨y.key, y.val, n⟩ (!dr)).length c5)).heap[w.heap.size]? = some (.cells #[g0, g1, g2, g3, g4, g5, g6, g7, g8, .slice a5 (S6.laidF li ⟨y.key, y.val, n⟩ (!dr)).length c5, .int .u64 (num : Int), .bool cl] 37 (0, 0))) := hb6
      have hms := Mod.setCell (F := fun k => k = w.heap.size) w5 ⟨w.heap.size, 9, none⟩ (.slice a5 (S6.laidF li ⟨y.key, y.val, n⟩ (!dr)).length c5) rfl
      have HM6 := Lib.hid (Mod.trans (Mod.trans HM.out (Mod.of_ext hHeld) (fun _ _ h => h)) hms (fun _ _ h => h))
      have hob : ∀ k, (Value.slice a5 (S6.laidF li ⟨y.key, y.val, n⟩ (!dr)).length c5).ownBlock = some k → k ≠ w.heap.size ∧ k ≠ w.heap.size + 1 ∧ k < w5.heap.size := fun k hk => by have := hown5.lt k hk; omega
      have HR6 := Lib.hid ((RPs.of_own hown5).mod hms (fun k hk => (hob k hk).1))
      have HO6 : Hid (∀ k, (Value.slice a5 (S6.laidF li ⟨y.key, y.val, n⟩ (!dr)).length c5).ownBlock = some k → (k ≠ w.heap.size ∧ k ≠ w.heap.size + 1 ∧ k < (w5.setCell ⟨w.heap.size, 9, none⟩ (.slice a5 (S6.laidF li ⟨y.key, y.val, n⟩ (!dr)).length c5)).heap.size) ∧ ((Value.slice pa0 l.length pc0).ownBlock = some k ∨ w.heap.size ≤ k)) := fun k hk => ⟨⟨(hob k hk).1, (hob k hk).2.1, Nat.lt_of_lt_of_le (hob k hk).2.2 hms.size⟩, .inr (by have := (hown5.lt k hk).1; omega)⟩
      clear hb6 hms hob hown5 hx5 hHeld hb5 q9 q9b q9f y0 y1 y2 hdr HLD
      go_wp2_with fail
      refine ⟨⟨i + 1, a5, c5, by omega, by go_num, ?_, ?_, HM6, ?_, ?_, ?_⟩, by simp [intOf]; omega⟩
      all_goals rw [HAT.out]
      · have := HSL.out; omega
      · exact HSRT
      · exact HB6
      · exact HR6
      · exact HO6
    · obtain rfl : i = ws.length := by omega
      have hge : ¬ ((ws.length : Nat) : Int) < (ws.length : Int) := by omega
      rw [List.take_length] at *
      obtain ⟨q0, q1, q2, q3, q4, q5, q6, q7, q8, q9, q10, q11⟩ := box12 HBK.out
      have q10f := blk_free HBK.out 10
      have hZ : ∀ {W}, Mod (fun k => k = w.heap.size) W1 W → W.heap[w.heap.size + 1]? = some (.cells #[.int .i64 0, .slice none 0 0, .slice none 0 0, .bool false, .bool false, .int .i64 0, .int .u32 0, .slice none 0 0, .bool false, .slice none 0 0, .int .u64 0, .bool false] 37 (0, 0)) := fun hm => blk_mod HZ1.out hm (by omega)
      have HONE := Lib.hid hg
      clear hg hlt
      by_cases hnn : num < n
      · have hd : decide ((num : Int) < (n : Int)) = true := decide_eq_true (by omega)
        have HNN := Lib.hid (Nat.max_eq_right (Nat.le_of_lt hnn))
        obtain ⟨W9, hW9⟩ : ∃ W9, W9 = wr.setCell ⟨w.heap.size, 10, none⟩ (.int .u64 (n : Int)) := ⟨_, rfl⟩
        have hb9 := blk_set HBK.out 10 (.int .u64 (n : Int))
        have hms := Mod.setCell (F := fun k => k = w.heap.size) wr ⟨w.heap.size, 10, none⟩ (.int .u64 (n : Int)) rfl
        rw [← hW9] at hb9 hms
        have HB9 : Hid (W9.heap[w.heap.size]? = some (.cells #[g0, g1, g2, g3, g4, g5, g6, g7, g8, .slice pa (S6.apl l n ws).length pc, .int .u64 (n : Int), .bool cl] 37 (0, 0))) := hb9
        have HM9 := Lib.hid (Mod.trans HM.out hms (fun _ _ h => h))
        have hR9 := HR.out.mod hms (fun k hk => (HO.out k hk).1.1)
        have hpl := fun k hk => let ⟨⟨a, b, c⟩, d⟩ := HO.out k hk; (⟨⟨a, b, Nat.lt_of_lt_of_le c hms.size⟩, d⟩ : (k ≠ w.heap.size ∧ k ≠ w.heap.size + 1 ∧ k < W9.heap.size) ∧ ((Value.slice pa0 l.length pc0).ownBlock = some k ∨ w.heap.size ≤ k))
        have HW9 := Lib.hid hW9
        clear hb9 hms HR HO HBK HM hW9
        go_upto_region 7 with fail
        rw [show wr.setCell ⟨w.heap.size, 10, none⟩ (.int .u64 (n : Int)) = W9 from HW9.out.symm]
        clear HW9 q0 q1 q2 q3 q4 q5 q6 q7 q8 q9 q10 q11 q10f
        have HTH := Lib.hid (there_blk (cs := [.int .i64 0, .slice none 0 0, .slice none 0 0, .bool false, .bool false, .int .i64 0, .int .u32 0, .slice none 0 0, .bool false, .slice none 0 0, .int .u64 0, .bool false]) (hZ HM9.out) 0 12 (by simp))
        obtain ⟨q0, q1, q2, q3, q4, q5, q6, q7, q8, q9, q10, q11⟩ := box12 HB9.out
        have HMS := Lib.hid (mod_setCells (fun z => z = w.heap.size + 1) W9 (w.heap.size + 1) 0 [g0, g1, g2, g3, g4, g5, g6, g7, g8, .slice pa (S6.apl l n ws).length pc, .int .u64 (n : Int), .bool cl] rfl)
        have HBS := Lib.hid (blk_setCells (w.heap.size + 1) 37 [g0, g1, g2, g3, g4, g5, g6, g7, g8, .slice pa (S6.apl l n ws).length pc, .int .u64 (n : Int), .bool cl] 0 W9 [.int .i64 0, .slice none 0 0, .slice none 0 0, .bool false, .bool false, .int .i64 0, .int .u32 0, .slice none 0 0, .bool false, .slice none 0 0, .int .u64 0, .bool false] (hZ HM9.out) (by simp))
        have HR9 := Lib.hid hR9
        have HPL := Lib.hid hpl
        clear hR9 hpl hZ
        go_wp2_with (first
          | ((with_reducible show wpList _ _ _ (⟨none, Op.store _ _ _, _, _, _, _⟩ :: _) _ _); refine wpList_store_mid rfl 37 _ _ rfl (w.heap.size + 1) 0 #[g0, g1, g2, g3, g4, g5, g6, g7, g8, .slice pa (S6.apl l n ws).length pc, .int .u64 (n : Int), .bool cl] (by rfl) (by rfl) HTH.out (by kernel_rfl) (one12 HONE.out _ _ _ _ _) ?_)
          | fail)
        have hz4 : (W9.setCells (w.heap.size + 1) 0 [g0, g1, g2, g3, g4, g5, g6, g7, g8, .slice pa (S6.apl l n ws).length pc, .int .u64 (n : Int), .bool cl]).heap[w.heap.size + 1]? = some (.cells #[g0, g1, g2, g3, g4, g5, g6, g7, g8, .slice pa (S6.apl l n ws).length pc, .int .u64 (n : Int), .bool cl] 37 (0, 0)) := by rw [HBS.out]; simp
        refine bodyPost_ret_by (results_cell_row (p := 6) (ty := 37) rfl _ _ (w.heap.size + 1) 37 #[g0, g1, g2, g3, g4, g5, g6, g7, g8, .slice pa (S6.apl l n ws).length pc, .int .u64 (n : Int), .bool cl] _ _ (by rfl) hz4 Try.underlying37 rfl (by kernel_rfl)) rfl ?_
        have hsz := HMS.out.size
        refine ⟨.slice pa (S6.apl l n ws).length pc, (by rw [HNN.out]), HR9.out.mod HMS.out (fun k hk e => (HPL.out k hk).1.2.1 e), fun k hk => ⟨(HPL.out k hk).2, Nat.lt_of_lt_of_le (HPL.out k hk).1.2.2 hsz⟩, ?_⟩
        have hm := Mod.trans (F := fun z => z = w.heap.size ∨ z = w.heap.size + 1) (HM9.out.mono (fun _ h => .inl h)) HMS.out (fun _ _ h => .inr h)
        exact Mod.ext (HX1.out) hm (fun z hz => by omega)
      · have hd : decide ((num : Int) < (n : Int)) = false := decide_eq_false (by omega)
        have HNN := Lib.hid (Nat.max_eq_left (show n ≤ num by omega))
        have HB9 := HBK
        have HM9 := HM
        have hR9 := HR.out
        have hpl := HO.out
        clear HR HO HBK HM
        go_upto_region 7 with fail
        generalize wr = W9 at *
        clear q0 q1 q2 q3 q4 q5 q6 q7 q8 q9 q10 q11 q10f
        have HTH := Lib.hid (there_blk (cs := [.int .i64 0, .slice none 0 0, .slice none 0 0, .bool false, .bool false, .int .i64 0, .int .u32 0, .slice none 0 0, .bool false, .slice none 0 0, .int .u64 0, .bool false]) (hZ HM9.out) 0 12 (by simp))
        obtain ⟨q0, q1, q2, q3, q4, q5, q6, q7, q8, q9, q10, q11⟩ := box12 HB9.out
        have HMS := Lib.hid (mod_setCells (fun z => z = w.heap.size + 1) W9 (w.heap.size + 1) 0 [g0, g1, g2, g3, g4, g5, g6, g7, g8, .slice pa (S6.apl l n ws).length pc, .int .u64 (num : Int), .bool cl] rfl)
        have HBS := Lib.hid (blk_setCells (w.heap.size + 1) 37 [g0, g1, g2, g3, g4, g5, g6, g7, g8, .slice pa (S6.apl l n ws).length pc, .int .u64 (num : Int), .bool cl] 0 W9 [.int .i64 0, .slice none 0 0, .slice none 0 0, .bool false, .bool false, .int .i64 0, .int .u32 0, .slice none 0 0, .bool false, .slice none 0 0, .int .u64 0, .bool false] (hZ HM9.out) (by simp))
        have HR9 := Lib.hid hR9
        have HPL := Lib.hid hpl
        clear hR9 hpl hZ
        go_wp2_with (first
          | ((with_reducible show wpList _ _ _ (⟨none, Op.store _ _ _, _, _, _, _⟩ :: _) _ _); refine wpList_store_mid rfl 37 _ _ rfl (w.heap.size + 1) 0 #[g0, g1, g2, g3, g4, g5, g6, g7, g8, .slice pa (S6.apl l n ws).length pc, .int .u64 (num : Int), .bool cl] (by rfl) (by rfl) HTH.out (by kernel_rfl) (one12 HONE.out _ _ _ _ _) ?_)
          | fail)
        have hz4 : (W9.setCells (w.heap.size + 1) 0 [g0, g1, g2, g3, g4, g5, g6, g7, g8, .slice pa (S6.apl l n ws).length pc, .int .u64 (num : Int), .bool cl]).heap[w.heap.size + 1]? = some (.cells #[g0, g1, g2, g3, g4, g5, g6, g7, g8, .slice pa (S6.apl l n ws).length pc, .int .u64 (num : Int), .bool cl] 37 (0, 0)) := by rw [HBS.out]; simp
        refine bodyPost_ret_by (results_cell_row (p := 6) (ty := 37) rfl _ _ (w.heap.size + 1) 37 #[g0, g1, g2, g3, g4, g5, g6, g7, g8, .slice pa (S6.apl l n ws).length pc, .int .u64 (num : Int), .bool cl] _ _ (by rfl) hz4 Try.underlying37 rfl (by kernel_rfl)) rfl ?_
        have hsz := HMS.out.size
        refine ⟨.slice pa (S6.apl l n ws).length pc, (by rw [HNN.out]), HR9.out.mod HMS.out (fun k hk e => (HPL.out k hk).1.2.1 e), fun k hk => ⟨(HPL.out k hk).2, Nat.lt_of_lt_of_le (HPL.out k hk).1.2.2 hsz⟩, ?_⟩
        have hm := Mod.trans (F := fun z => z = w.heap.size ∨ z = w.heap.size + 1) (HM9.out.mono (fun _ h => .inl h)) HMS.out (fun _ _ h => .inr h)
        exact Mod.ext (HX1.out) hm (fun z hz => by omega)
end Go.Proofs.Ytnjfioikpajhlaa
