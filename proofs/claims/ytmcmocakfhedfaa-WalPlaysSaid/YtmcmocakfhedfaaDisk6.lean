/- disk.Restart. -/
import Derived.Test.YtmcmocakfhedfaaDisk5
namespace Go.Proofs.Ytmcmocakfhedfaa
open Go.RowKit

/-- The writes that are kept. -/
def D.kept : List (Int × List UInt8) → List Bool → List (Int × List UInt8)
  | x :: r, b :: s => if b then x :: D.kept r s else D.kept r s
  | _, _ => []
def D.restart (d : D.Dsk) (ks : List Bool) : D.Dsk := { d with safe := D.over d.safe (D.kept d.wait ks), wait := [], down := false, armed := false }
theorem D.kept_take : ∀ (l : List (Int × List UInt8)) (ks : List Bool) (k : Nat) (h : k < l.length), D.kept (l.take (k + 1)) ks = D.kept (l.take k) ks ++ (if ks.getD k false = true then [l[k]] else [])
  | [], _, k, h => by simp at h
  | x :: r, [], k, h => by cases k <;> simp [D.kept]
  | x :: r, b :: s, 0, h => by cases b <;> simp [D.kept]
  | x :: r, b :: s, k + 1, h => by
    have ih := D.kept_take r s k (by simpa using h)
    simp only [List.take_succ_cons, D.kept, List.getElem_cons_succ, List.getD_cons_succ]
    cases b
    · simpa using ih
    · simp only [if_true, List.cons_append, ih]

theorem Reads.mod_or {F : Nat → Prop} {w w' : World} {v : Value} {cs : List Value} (h : Reads w v cs) (hm : Mod F w w') (hv : cs = [] ∨ ∀ k, v.ownBlock = some k → ¬ F k) : Reads w' v cs := by
  rcases hv with rfl | hv
  · obtain ⟨a, cap, h0, h1, h2, hn, h3, _⟩ := h
    exact ⟨a, cap, h0, h1, h2, hn, h3, .inl rfl⟩
  · exact h.mod hm hv
set_option maxRecDepth 100000 in
set_option maxHeartbeats 1600000 in
theorem disk_restart {w : World} {p m : Nat} {wv : Value} {d : D.Dsk} (h : DiskIn w p m wv d) (kv : Value) (ks : List Bool) (hks : Reads w kv (ks.map Value.bool)) (hkb : ks = [] ∨ ∀ k, kv.ownBlock = some k → ¬ FP p m wv k) :
    Calls Try.prog 36 #[.pointer (some ⟨p, 0, none⟩), kv] w fun e w' => e = .returned (.tuple #[]) ∧ Wrote w w' p m wv (D.restart d ks) := by
  obtain ⟨it, z, hit, hz0, hz1, hz2, hz3⟩ := info_wr_parts
  obtain ⟨R, hR⟩ : ∃ R, R = D.restart d ks := ⟨_, rfl⟩
  rw [← hR]
  have HR := Lib.hid hR
  clear hR
  have HD1 := Lib.hid h
  have hsh := h.shape
  have hwl := row_bound h
  obtain ⟨c0, c1, c2, c3, c4, c5⟩ := h.cells
  clear h
  obtain ⟨n, safe, wait, down, armed, after⟩ := d
  simp only at hsh hwl c0 c1 c2 c3 c4 c5
  obtain ⟨a, cap, rfl⟩ := hsh
  have HKS := Lib.hid hks
  have HKB := Lib.hid hkb
  have hksh : ∃ a' cap', kv = .slice a' ks.length cap' ∧ ks.length ≤ maxLen := by
    obtain ⟨a', cap', e, h1, h2, _⟩ := hks
    refine ⟨a', cap', by simpa using e, ?_⟩
    simp only [List.length_map] at h1
    omega
  obtain ⟨a', cap', rfl, hkl⟩ := hksh
  unfold maxLen at hkl
  clear hks hkb
  go_enter Try.func36, Try.ntmps36
  go_wp2
  go_loopw [11] (fun kv wr => ∃ k : Nat, k ≤ wait.length ∧ kv = .int .i64 k ∧ Hid (DiskIn wr p m (.slice a wait.length cap) ⟨n, D.over safe (D.kept (wait.take k) ks), wait, down, armed, after⟩) ∧ Hid (Mod (FP p m (.slice a wait.length cap)) w wr)) (fun kv _ => wait.length - (intOf kv).toNat)
  case atStart => exact ⟨0, Nat.zero_le _, rfl, HD1.out, Mod.refl _ _⟩
  case round =>
    obtain ⟨k, hk, rfl, hd, hm⟩ := hrel
    by_cases hlt : k < wait.length
    · have hlti : (k : Int) < (wait.length : Int) := by omega
      have HKR := Lib.hid (Reads.mod_or HKS.out hm.out (HKB.out.imp (fun e => by rw [e]; rfl) id))
      obtain ⟨g, cp, heq, _, _, hcp, hcm, hrg⟩ := own_range hd.out.row (wr_len hd.out.ok) (by decide) k hlt
      simp only [Value.slice.injEq] at heq
      obtain ⟨rfl, _, rfl⟩ := heq
      have hr := hrg k hlt
      have hwk := hd.out.ok.wl _ (List.getElem_mem hlt)
      have hkt := D.kept_take wait ks k hlt
      simp only at hr hwk
      generalize hX : wait[k] = X at hr hwk hkt
      clear hX hrg
      obtain ⟨i, s⟩ := X
      simp only at hwk
      obtain ⟨hw1, hw2, hw3⟩ := hwk
      obtain ⟨L, hL⟩ : ∃ L, L = s.map byteVal := ⟨_, rfl⟩
      have hCe : D.wrCells (i, s) = .int .i64 i :: L := by rw [hL]; rfl
      rw [hCe] at hr
      have hLL : L.length = 512 := by rw [hL, List.length_map]; exact hw1
      have HRG := Lib.hid hr
      have HLL := Lib.hid hLL
      have HCL := Lib.hid (show (Value.int .i64 i :: L).length = 513 by rw [List.length_cons, hLL])
      have HC1 := Lib.hid (show ∀ u ∈ (Value.int .i64 i :: L), u.oneCell' = true by
        intro u hu
        rcases List.mem_cons.1 hu with rfl | hu
        · rfl
        · rw [hL] at hu; exact bytes_one s u hu)
      have HKT := Lib.hid hkt
      have HL := Lib.hid hL
      have HZ := Lib.hid hz3
      have HLI := Lib.hid (show 0 ≤ i ∧ i < n ∧ s.length = 512 from ⟨hw2, hw3, hw1⟩)
      clear hr hLL hkt hL hCe hw1 hw2 hw3
      by_cases hkk : k < ks.length
      · have hkki : (k : Int) < (ks.length : Int) := by omega
        obtain ⟨b', off, ea, hcc⟩ : ∃ b' off, a' = some ⟨b', off, none⟩ ∧ wr.cell? ⟨b', off + k, none⟩ = some (.bool ks[k]) := by
          obtain ⟨a2, cap2, e, _, _, _, _, h4⟩ := HKR.out
          simp only [Value.slice.injEq] at e
          obtain ⟨rfl, _, rfl⟩ := e
          rcases h4 with h4 | ⟨b', off, rfl, hc⟩
          · have : ks.length = 0 := by simpa using h4
            omega
          · exact ⟨b', off, rfl, hc k _ (by simp [hkk])⟩
        subst ea
        have hgd : ks.getD k false = ks[k] := by simp [hkk]
        rw [hgd] at HKT
        cases hb : ks[k] with
        | true =>
          rw [hb] at hcc
          have hkf : (if ks[k] = true then [(i, s)] else []) = [(i, s)] := by rw [hb]; rfl
          have HKC : Hid (∀ w2, Ext wr w2 → w2.cell? ⟨b', off + k, none⟩ = some (.bool true)) := fun w2 hx => (Mod.of_ext (F := fun _ => False) hx).cell hcc (fun h => h)
          clear hb hgd hcc
          go_wp2_with (first
            | ((with_reducible show wpList _ _ _ (⟨some 15, Op.load _ _, _, _, _, _⟩ :: _) _ _); refine wpList_load_mid rfl 100 _ rfl g (k * 513) rfl (Value.int .i64 i :: L) _ HRG.out Try.underlying100 rfl (by rw [HCL.out]; exact size_wr) ?_)
            | ((with_reducible show wpList _ _ _ (⟨some 5, Op.alloc _, _, _, _, _⟩ :: _) _ _); refine wpl_alloc _ rfl 100 rfl it z hit hz0 ?_; intro Z hZ)
            | ((with_reducible show wpList _ _ _ (⟨none, Op.store _ _ _, _, _, _, _⟩ :: _) _ _); refine wpl_store_all _ rfl 100 _ _ rfl wr.heap.size 100 Z (heap_alloc_new wr _) rfl (Value.int .i64 i :: L) rfl (by rw [hZ, HCL.out]; exact HZ.out) (by rw [HCL.out]; exact size_wr) HC1.out ?_; intro w2 hb2 hm2 hsz2; have hx2 : Ext wr w2 := hm2.ext (Ext.of_alloc wr _) (fun k e => by omega); have hkc := HKC.out w2 hx2)
            | fail)
          have HM2 := Lib.hid (hm.out.trans (Mod.of_ext (F := fun _ => False) hx2) (fun _ _ h => h.elim))
          have hd2 := hd.out.ext hx2
          obtain ⟨e0, e1, e2, e3, e4, e5⟩ := hd2.cells
          have hHeld : w2.drew.cell? ⟨p, 1, none⟩ = some (.map (some m)) ∧ w2.drew.cell? ⟨wr.heap.size, 0, none⟩ = some (.int .i64 i) ∧ w2.drew.rangeAt wr.heap.size 1 L := by
            refine ⟨e1, blk_cell hb2 0, range_of_blk hb2 1 L (by simp)⟩
          obtain ⟨w3, hrun, hd3, hm3⟩ := (hd2.ext (Ext.of_drew w2)).put i s HLI.out.1 HLI.out.2.1 HLI.out.2.2
          rw [← HL.out] at hrun
          have HD3 := Lib.hid (show DiskIn w3 p m (.slice (some ⟨g, 0, none⟩) wait.length cap) ⟨n, D.over safe (D.kept (wait.take (k + 1)) ks), wait, down, armed, after⟩ by rw [HKT.out, hkf, D.over_snoc]; exact hd3)
          have HM3 := Lib.hid ((HM2.out.trans (Mod.of_ext (F := fun _ => False) (Ext.of_drew w2)) (fun _ _ h => h.elim)).trans hm3 (fun _ _ h => h))
          clear hd2 hx2 hb2 hm2 hsz2 hd3 hm3 e0 e1 e2 e3 e4 e5
          refine wp_region_C (fun w' => w'.cell? ⟨p, 1, none⟩ = some (.map (some m)) ∧ w'.cell? ⟨wr.heap.size, 0, none⟩ = some (.int .i64 i) ∧ w'.rangeAt wr.heap.size 1 L) 8 (by kernel_rfl) ?_
          (refine wpAnyC_take [1, 2, 3, 8] (i := 0) (oi := ⟨some 26, _, _, _, _, _⟩) (v := ?_) rfl (by kernel_rfl) (by kernel_rfl) (by kernel_rfl) (by kernel_rfl) (fun _ _ _ h => h) (Or.inl ⟨by rfl, ?_⟩) hHeld ?_; rotate_left; (focus (intro w hSw; obtain ⟨hSw1, hSw2, hSw3⟩ := hSw; go_simp; first | done | with_reducible rfl)); try simp only [Act.put, List.setIfInBounds_toArray, List.set_cons_zero, List.set_cons_succ])
          (refine wpAnyC_take [2, 3, 8] (i := 1) (oi := ⟨some 27, _, _, _, _, _⟩) (v := ?_) rfl (by kernel_rfl) (by kernel_rfl) (by kernel_rfl) (by kernel_rfl) (fun _ _ _ h => h) (Or.inl ⟨by rfl, ?_⟩) hHeld ?_; rotate_left; (focus (intro w hSw; obtain ⟨hSw1, hSw2, hSw3⟩ := hSw; go_simp; first | done | with_reducible rfl)); try simp only [Act.put, List.setIfInBounds_toArray, List.set_cons_zero, List.set_cons_succ])
          (refine wpAnyC_take [3, 8] (i := 2) (oi := ⟨some 28, _, _, _, _, _⟩) (v := ?_) rfl (by kernel_rfl) (by kernel_rfl) (by kernel_rfl) (by kernel_rfl) (fun _ _ _ h => h) (Or.inl ⟨by rfl, ?_⟩) hHeld ?_; rotate_left; (focus (intro w hSw; obtain ⟨hSw1, hSw2, hSw3⟩ := hSw; go_simp; first | done | with_reducible rfl)); try simp only [Act.put, List.setIfInBounds_toArray, List.set_cons_zero, List.set_cons_succ])
          (refine wpAnyC_take [8] (i := 3) (oi := ⟨some 29, _, _, _, _, _⟩) (v := ?_) rfl (by kernel_rfl) (by kernel_rfl) (by kernel_rfl) (by kernel_rfl) (fun _ _ _ h => h) (Or.inl ⟨by rfl, ?_⟩) hHeld ?_; rotate_left; (focus (intro w hSw; obtain ⟨hSw1, hSw2, hSw3⟩ := hSw; go_simp; first | done | with_reducible rfl)); try simp only [Act.put, List.setIfInBounds_toArray, List.set_cons_zero, List.set_cons_succ])
          (refine wpAnyC_take [5, 8] (i := 4) (oi := ⟨some 30, _, _, _, _, _⟩) (v := ?_) rfl (by kernel_rfl) (by kernel_rfl) (by kernel_rfl) (by kernel_rfl) (fun _ _ _ h => h) (Or.inl ⟨by rfl, ?_⟩) hHeld ?_; rotate_left; (focus (intro w hSw; obtain ⟨hSw1, hSw2, hSw3⟩ := hSw; go_simp; first | done | with_reducible rfl)); try simp only [Act.put, List.setIfInBounds_toArray, List.set_cons_zero, List.set_cons_succ])
          (refine wpAnyC_take [8] (i := 5) (oi := ⟨some 31, _, _, _, _, _⟩) (v := ?_) rfl (by kernel_rfl) (by kernel_rfl) (by kernel_rfl) (by kernel_rfl) (fun _ _ _ h => h) (Or.inl ⟨by rfl, ?_⟩) hHeld ?_; rotate_left; (focus (intro w hSw; obtain ⟨hSw1, hSw2, hSw3⟩ := hSw; go_simp; first | done | with_reducible rfl)); try simp only [Act.put, List.setIfInBounds_toArray, List.set_cons_zero, List.set_cons_succ])
          (refine wpAnyC_take [7, 8] (i := 6) (oi := ⟨some 32, _, _, _, _, _⟩) (v := ?_) rfl (by kernel_rfl) (by kernel_rfl) (by kernel_rfl) (by kernel_rfl) (fun _ _ _ h => h) (Or.inl ⟨by rfl, ?_⟩) hHeld ?_; rotate_left; (focus (intro w hSw; obtain ⟨hSw1, hSw2, hSw3⟩ := hSw; go_simp; first | done | with_reducible rfl)); try simp only [Act.put, List.setIfInBounds_toArray, List.set_cons_zero, List.set_cons_succ])
          (refine wpAnyC_take [8] (i := 7) (oi := ⟨some 33, _, _, _, _, _⟩) (v := .agg L.toArray) rfl (by kernel_rfl) (by kernel_rfl) (by kernel_rfl) (by kernel_rfl) (fun _ _ _ h => h) (yieldsIf_load_mid (by rfl) 98 _ rfl wr.heap.size 1 rfl L _ (fun w h => h.2.2) Try.underlying98 rfl (by rw [HLL.out]; exact size_sec)) hHeld ?_; try simp only [Act.put, List.setIfInBounds_toArray, List.set_cons_zero, List.set_cons_succ])
          refine wpAnyC_c (oi := ⟨none, _, _, _, _, _⟩) rfl (by kernel_rfl) (fun K hK => ?_)
          rw [if_pos (by rfl)]
          go_simp
          refine hK.out _ _ ?_
          clear hK K
          try simp only [Act.put, List.setIfInBounds_toArray, List.set_cons_zero, List.set_cons_succ]
          refine wpAny_done (by kernel_rfl) ?_ _
          go_wp2
          go_roundw
          case rel => exact ⟨k + 1, by omega, by go_num, HD3.out, HM3.out⟩
          case measure => (simp [intOf]; try omega)
        | false =>
          rw [hb] at hcc
          have hkf : D.over safe (D.kept (wait.take k) ks ++ (if ks[k] = true then [(i, s)] else [])) = D.over safe (D.kept (wait.take k) ks) := by rw [hb]; simp
          have HKC : Hid (∀ w2, Ext wr w2 → w2.cell? ⟨b', off + k, none⟩ = some (.bool false)) := fun w2 hx => (Mod.of_ext (F := fun _ => False) hx).cell hcc (fun h => h)
          clear hb hgd hcc
          go_wp2_with (first
            | ((with_reducible show wpList _ _ _ (⟨some 15, Op.load _ _, _, _, _, _⟩ :: _) _ _); refine wpList_load_mid rfl 100 _ rfl g (k * 513) rfl (Value.int .i64 i :: L) _ HRG.out Try.underlying100 rfl (by rw [HCL.out]; exact size_wr) ?_)
            | ((with_reducible show wpList _ _ _ (⟨some 5, Op.alloc _, _, _, _, _⟩ :: _) _ _); refine wpl_alloc _ rfl 100 rfl it z hit hz0 ?_; intro Z hZ)
            | ((with_reducible show wpList _ _ _ (⟨none, Op.store _ _ _, _, _, _, _⟩ :: _) _ _); refine wpl_store_all _ rfl 100 _ _ rfl wr.heap.size 100 Z (heap_alloc_new wr _) rfl (Value.int .i64 i :: L) rfl (by rw [hZ, HCL.out]; exact HZ.out) (by rw [HCL.out]; exact size_wr) HC1.out ?_; intro w2 hb2 hm2 hsz2; have hx2 : Ext wr w2 := hm2.ext (Ext.of_alloc wr _) (fun k e => by omega); have hkc := HKC.out w2 hx2)
            | fail)
          have HM2 := Lib.hid (hm.out.trans (Mod.of_ext (F := fun _ => False) hx2) (fun _ _ h => h.elim))
          have HD2 := Lib.hid (show DiskIn w2 p m (.slice (some ⟨g, 0, none⟩) wait.length cap) ⟨n, D.over safe (D.kept (wait.take (k + 1)) ks), wait, down, armed, after⟩ by rw [HKT.out, hkf]; exact hd.out.ext hx2)
          clear hx2 hb2 hm2 hsz2
          go_roundw
          case rel => exact ⟨k + 1, by omega, by go_num, HD2.out, HM2.out⟩
          case measure => (simp [intOf]; try omega)
      · have hkki : (ks.length : Int) ≤ (k : Int) := by omega
        have hkf : D.over safe (D.kept (wait.take k) ks ++ (if ks.getD k false = true then [(i, s)] else [])) = D.over safe (D.kept (wait.take k) ks) := by
          have : ks.getD k false = false := by simp [List.getElem?_eq_none (show ks.length ≤ k by omega)]
          rw [this]; simp
        go_wp2_with (first
          | ((with_reducible show wpList _ _ _ (⟨some 15, Op.load _ _, _, _, _, _⟩ :: _) _ _); refine wpList_load_mid rfl 100 _ rfl g (k * 513) rfl (Value.int .i64 i :: L) _ HRG.out Try.underlying100 rfl (by rw [HCL.out]; exact size_wr) ?_)
          | ((with_reducible show wpList _ _ _ (⟨some 5, Op.alloc _, _, _, _, _⟩ :: _) _ _); refine wpl_alloc _ rfl 100 rfl it z hit hz0 ?_; intro Z hZ)
          | ((with_reducible show wpList _ _ _ (⟨none, Op.store _ _ _, _, _, _, _⟩ :: _) _ _); refine wpl_store_all _ rfl 100 _ _ rfl wr.heap.size 100 Z (heap_alloc_new wr _) rfl (Value.int .i64 i :: L) rfl (by rw [hZ, HCL.out]; exact HZ.out) (by rw [HCL.out]; exact size_wr) HC1.out ?_; intro w2 hb2 hm2 hsz2; have hx2 : Ext wr w2 := hm2.ext (Ext.of_alloc wr _) (fun k e => by omega))
          | fail)
        have HM2 := Lib.hid (hm.out.trans (Mod.of_ext (F := fun _ => False) hx2) (fun _ _ h => h.elim))
        have HD2 := Lib.hid (show DiskIn w2 p m (.slice (some ⟨g, 0, none⟩) wait.length cap) ⟨n, D.over safe (D.kept (wait.take (k + 1)) ks), wait, down, armed, after⟩ by rw [HKT.out, hkf]; exact hd.out.ext hx2)
        clear hx2 hb2 hm2 hsz2
        go_roundw
        case rel => exact ⟨k + 1, by omega, by go_num, HD2.out, HM2.out⟩
        case measure => (simp [intOf]; try omega)
    · have hke : k = wait.length := by omega
      subst hke
      have hdd := hd.out
      rw [List.take_length] at hdd
      have hfr2 := hdd.free 2
      have hfr3 := hdd.free 3
      have hfr4 := hdd.free 4
      obtain ⟨e0, e1, e2, e3, e4, e5⟩ := hdd.cells
      have h1 := hdd.cleared
      have hok3 : D.Ok ⟨n, D.over safe (D.kept wait ks), [], false, armed, after⟩ := ⟨h1.ok.n1, h1.ok.n2, h1.ok.wl, h1.ok.sl, h1.ok.a1, h1.ok.a2⟩
      have hok4 : D.Ok ⟨n, D.over safe (D.kept wait ks), [], false, false, after⟩ := ⟨h1.ok.n1, h1.ok.n2, h1.ok.wl, h1.ok.sl, h1.ok.a1, h1.ok.a2⟩
      have h2 := h1.set 3 (.bool false) (d' := ⟨n, D.over safe (D.kept wait ks), [], false, armed, after⟩) rfl rfl rfl hok3
      have h3 := h2.set 4 (.bool false) (d' := ⟨n, D.over safe (D.kept wait ks), [], false, false, after⟩) rfl rfl rfl hok4
      have HW := Lib.hid (show Wrote w (((wr.setCell ⟨p, 2, none⟩ (.slice none 0 0)).setCell ⟨p, 3, none⟩ (.bool false)).setCell ⟨p, 4, none⟩ (.bool false)) p m (.slice a wait.length cap) R by
        rw [HR.out]
        exact ⟨.slice none 0 0, h3, hm.out.trans (((Mod.setCell (F := FP p m (.slice a wait.length cap)) wr _ _ (.inl rfl)).trans (Mod.setCell (F := FP p m (.slice a wait.length cap)) _ _ _ (.inl rfl)) (fun _ _ h => h)).trans (Mod.setCell (F := FP p m (.slice a wait.length cap)) _ _ _ (.inl rfl)) (fun _ _ h => h)) (fun _ _ h => h), fun k hk => by simp [Value.ownBlock] at hk⟩)
      clear hdd h1 h2 h3 hok3 hok4
      go_wp2
      go_end0
      exact ⟨rfl, HW.out⟩
end Go.Proofs.Ytmcmocakfhedfaa
