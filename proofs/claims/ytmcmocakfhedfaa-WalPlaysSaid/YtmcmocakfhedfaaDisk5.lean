/- disk.Flush. -/
import Derived.Test.YtmcmocakfhedfaaDisk
import Derived.Test.YtmcmocakfhedfaaDisk3
import Derived.Test.YtmcmocakfhedfaaDisk4
import Derived.Test.YtmcmocakfhedfaaBig
namespace Go.Proofs.Ytmcmocakfhedfaa
open Go.RowKit

def D.flush (d : D.Dsk) : D.Dsk := if D.done d then { D.goes d with safe := D.over d.safe d.wait, wait := [] } else D.goes d
def D.flushE (d : D.Dsk) : Int := if D.done d then 0 else 3
theorem D.over_snoc (f : Int → Option (List UInt8)) (l : List (Int × List UInt8)) (x : Int × List UInt8) : D.over f (l ++ [x]) = fun j => if j = x.1 then some x.2 else D.over f l j := by
  unfold D.over; rw [List.foldl_append]; rfl
theorem D.over_take (f : Int → Option (List UInt8)) (l : List (Int × List UInt8)) (k : Nat) (h : k < l.length) : D.over f (l.take (k + 1)) = fun j => if j = l[k].1 then some l[k].2 else D.over f (l.take k) j := by
  rw [List.take_succ_eq_append_getElem h, D.over_snoc]

set_option maxRecDepth 100000 in
/-- A sector's bytes are put into the map of those that last. -/
theorem DiskIn.put {w : World} {p m : Nat} {wv : Value} {d : D.Dsk} (h : DiskIn w p m wv d) (i : Int) (s : List UInt8) (h1 : 0 ≤ i) (h2 : i < d.n) (hs : s.length = 512) :
    ∃ w', (Instr.mapUpdate 93 (.map (some m)) (.int .i64 i) (.agg (s.map byteVal).toArray)).run Try.prog w = .ok () w' ∧
      DiskIn w' p m wv { d with safe := fun j => if j = i then some s else d.safe j } ∧ Mod (FP p m wv) w w' := by
  obtain ⟨a1, a2, a3⟩ := h.apart
  have n2 := h.ok.n2
  obtain ⟨w', hrun, hmap, hg⟩ := h.map.set Try.underlying3 (t := 93) (e := 98) Try.underlying93 4096 (fun k v hv => by
    obtain ⟨s', hs', _⟩ := Option.map_eq_some_iff.1 hv
    have := h.ok.sl k s' hs'
    omega) (by omega) i (by omega) (by omega) (.agg (s.map byteVal).toArray)
  have hm : Mod (fun k => k = m) w w' := Mod.grown hg (fun k e _ => by injection e with e; exact e.symm)
  refine ⟨w', hrun, ⟨blk_mod h.blk hm a1, ownsRow_mod h.row hm (fun k hk e => a3 (by rw [hk, e])), ?_, ?_⟩, hm.mono (fun k e => .inr (.inl e))⟩
  · have e : (fun k => ((if k = i then some s else d.safe k)).map D.secVal) = (fun j => if j = i then some (Value.agg (s.map byteVal).toArray) else (d.safe j).map D.secVal) := by
      funext j; split <;> rfl
    show MapAt Try.prog _ w' m (fun k => ((if k = i then some s else d.safe k)).map D.secVal)
    rw [e]; exact hmap
  · refine ⟨h.ok.n1, h.ok.n2, h.ok.wl, fun k s' hk => ?_, h.ok.a1, h.ok.a2⟩
    simp only at hk
    split at hk
    · injection hk with hk; subst hk; subst_vars; exact ⟨hs, h1, h2⟩
    · exact h.ok.sl k s' hk
/-- The row of writes is taken away. -/
theorem DiskIn.cleared {w : World} {p m : Nat} {wv : Value} {d : D.Dsk} (h : DiskIn w p m wv d) : DiskIn (w.setCell ⟨p, 2, none⟩ (.slice none 0 0)) p m (.slice none 0 0) { d with wait := [] } := by
  obtain ⟨a1, a2, a3⟩ := h.apart
  have hm : Mod (fun k => k = p) w (w.setCell ⟨p, 2, none⟩ (.slice none 0 0)) := Mod.setCell w _ _ rfl
  refine ⟨?_, ⟨by simp, .inl ⟨rfl, rfl⟩⟩, h.map.mod hm (fun e => a1 e.symm), ⟨h.ok.n1, h.ok.n2, fun x hx => (by cases hx), h.ok.sl, h.ok.a1, h.ok.a2⟩⟩
  rw [blk_set h.blk 2]; rfl
theorem size_wr : (Try.prog.info? 100).map (·.size) = some 513 := by kernel_rfl
theorem row_bound {w : World} {p m : Nat} {wv : Value} {d : D.Dsk} (h : DiskIn w p m wv d) : d.wait.length ≤ 9223372036854775807 := by
  rcases h.row.2 with ⟨_, h0⟩ | ⟨g, cp, cur, _, _, _, hnc, hcm, _⟩
  · omega
  · unfold maxLen at hcm; omega

set_option maxRecDepth 100000 in
set_option maxHeartbeats 1600000 in
theorem disk_flush {w : World} {p m : Nat} {wv : Value} {d : D.Dsk} (h : DiskIn w p m wv d) :
    Calls Try.prog 26 #[.pointer (some ⟨p, 0, none⟩)] w fun e w' => e = .returned (.int .i64 (D.flushE d)) ∧ Wrote w w' p m wv (D.flush d) := by
  have HGO := Lib.hid (disk_goes h)
  have hgw : (D.goes d).wait = d.wait := by unfold D.goes; split <;> (try split) <;> rfl
  have hgs : (D.goes d).safe = d.safe := by unfold D.goes; split <;> (try split) <;> rfl
  obtain ⟨E, hE⟩ : ∃ E, E = D.flushE d := ⟨_, rfl⟩
  obtain ⟨R, hR⟩ : ∃ R, R = D.flush d := ⟨_, rfl⟩
  rw [← hE, ← hR]
  unfold D.flushE at hE
  unfold D.flush at hR
  rw [← hgw, ← hgs] at hR
  clear hgw hgs
  have hsh := h.shape
  clear h
  obtain ⟨it, z, hit, hz0, hz1, hz2, hz3⟩ := info_wr_parts
  generalize D.goes d = G at *
  generalize D.done d = dn at *
  cases dn
  · rw [if_neg (by decide)] at hE hR
    subst hE hR
    go_enter Try.func26, Try.ntmps26
    go_wp2_with fail
    refine HGO.out.mono ?_
    rintro e w1 ⟨rfl, hd1, hm1⟩
    have HW := Lib.hid (show Wrote w w1 p m wv R from ⟨wv, hd1, hm1, fun k hk => .inl hk⟩)
    clear hd1 hm1
    go_wp2
    go_ret
    exact ⟨rfl, HW.out⟩
  · rw [if_pos rfl] at hE hR
    subst hE
    have HR := Lib.hid hR
    clear hR hsh
    go_enter Try.func26, Try.ntmps26
    go_wp2_with fail
    refine HGO.out.mono ?_
    rintro e w1 ⟨rfl, hd1, hm1⟩
    have HD1 := Lib.hid hd1
    have HM1 := Lib.hid hm1
    have hsh := hd1.shape
    have hwl := row_bound hd1
    clear hd1 hm1
    obtain ⟨c0, c1, c2, c3, c4, c5⟩ := HD1.out.cells
    obtain ⟨n, safe, wait, down, armed, after⟩ := G
    simp only at hsh hwl c0 c1 c2 c3 c4 c5
    obtain ⟨a, cap, rfl⟩ := hsh
    go_wp2
    go_loopw [13] (fun kv wr => ∃ k : Nat, k ≤ wait.length ∧ kv = .int .i64 k ∧ Hid (DiskIn wr p m (.slice a wait.length cap) ⟨n, D.over safe (wait.take k), wait, down, armed, after⟩) ∧ Hid (Mod (FP p m (.slice a wait.length cap)) w1 wr)) (fun kv _ => wait.length - (intOf kv).toNat)
    case atStart => exact ⟨0, Nat.zero_le _, rfl, HD1.out, Mod.refl _ _⟩
    case round =>
      obtain ⟨k, hk, rfl, hd, hm⟩ := hrel
      by_cases hlt : k < wait.length
      · have hlti : (k : Int) < (wait.length : Int) := by omega
        obtain ⟨g, cp, heq, _, _, hcp, hcm, hrg⟩ := own_range hd.out.row (wr_len hd.out.ok) (by decide) k hlt
        simp only [Value.slice.injEq] at heq
        obtain ⟨rfl, _, rfl⟩ := heq
        have hr := hrg k hlt
        have hwk := hd.out.ok.wl _ (List.getElem_mem hlt)
        have hot := D.over_take safe wait k hlt
        simp only at hr hwk
        generalize hX : wait[k] = X at hr hwk hot
        clear hX hrg
        obtain ⟨i, s⟩ := X
        simp only at hwk hot
        obtain ⟨hw1, hw2, hw3⟩ := hwk
        obtain ⟨L, hL⟩ : ∃ L, L = s.map byteVal := ⟨_, rfl⟩
        have hCe : D.wrCells (i, s) = .int .i64 i :: L := by rw [hL]; rfl
        rw [hCe] at hr
        have hLL : L.length = 512 := by rw [hL, List.length_map]; exact hw1
        have HRG := Lib.hid hr
        have HLL := Lib.hid hLL
        have HCL := Lib.hid (show (Value.int .i64 i :: L).length = 513 by rw [List.length_cons, hLL])
        have HC1 := Lib.hid (show ∀ u ∈ (Value.int .i64 i :: L), u.oneCell' = true by
          intro u hu
          rcases List.mem_cons.1 hu with rfl | hu
          · rfl
          · rw [hL] at hu; exact bytes_one s u hu)
        have HOT := Lib.hid hot
        have HL := Lib.hid hL
        have HZ := Lib.hid hz3
        have HLI := Lib.hid (show 0 ≤ i ∧ i < n ∧ s.length = 512 from ⟨hw2, hw3, hw1⟩)
        clear hr hLL hot hL hCe hw1 hw2 hw3
        go_wp2_with (first
          | ((with_reducible show wpList _ _ _ (⟨some 16, Op.load _ _, _, _, _, _⟩ :: _) _ _); refine wpList_load_mid rfl 100 _ rfl g (k * 513) rfl (Value.int .i64 i :: L) _ HRG.out Try.underlying100 rfl (by rw [HCL.out]; exact size_wr) ?_)
          | ((with_reducible show wpList _ _ _ (⟨some 4, Op.alloc _, _, _, _, _⟩ :: _) _ _); refine wpl_alloc _ rfl 100 rfl it z hit hz0 ?_; intro Z hZ)
          | ((with_reducible show wpList _ _ _ (⟨none, Op.store _ _ _, _, _, _, _⟩ :: _) _ _); refine wpl_store_all _ rfl 100 _ _ rfl wr.heap.size 100 Z (heap_alloc_new wr _) rfl (Value.int .i64 i :: L) rfl (by rw [hZ, HCL.out]; exact HZ.out) (by rw [HCL.out]; exact size_wr) HC1.out ?_; intro w2 hb2 hm2 hsz2)
          | fail)
        have hx2 : Ext wr w2 := hm2.ext (Ext.of_alloc wr _) (fun k e => by omega)
        have hd2 := hd.out.ext hx2
        have HD2 := Lib.hid hd2
        have HM2 := Lib.hid (hm.out.trans (Mod.of_ext (F := fun _ => False) hx2) (fun _ _ h => h.elim))
        obtain ⟨e0, e1, e2, e3, e4, e5⟩ := hd2.cells
        have hHeld : w2.drew.cell? ⟨p, 1, none⟩ = some (.map (some m)) ∧ w2.drew.cell? ⟨wr.heap.size, 0, none⟩ = some (.int .i64 i) ∧ w2.drew.rangeAt wr.heap.size 1 L := by
          refine ⟨e1, blk_cell hb2 0, range_of_blk hb2 1 L (by simp)⟩
        obtain ⟨w3, hrun, hd3, hm3⟩ := (hd2.ext (Ext.of_drew w2)).put i s HLI.out.1 HLI.out.2.1 HLI.out.2.2
        rw [← HL.out] at hrun
        have HD3 := Lib.hid (show DiskIn w3 p m (.slice (some ⟨g, 0, none⟩) wait.length cap) ⟨n, D.over safe (wait.take (k + 1)), wait, down, armed, after⟩ by rw [HOT.out]; exact hd3)
        have HM3 := Lib.hid ((HM2.out.trans (Mod.of_ext (F := fun _ => False) (Ext.of_drew w2)) (fun _ _ h => h.elim)).trans hm3 (fun _ _ h => h))
        clear hd2 hx2 hb2 hm2 hsz2 hd3 hm3 e0 e1 e2 e3 e4 e5
        refine wp_region_C (fun w' => w'.cell? ⟨p, 1, none⟩ = some (.map (some m)) ∧ w'.cell? ⟨wr.heap.size, 0, none⟩ = some (.int .i64 i) ∧ w'.rangeAt wr.heap.size 1 L) 8 (by kernel_rfl) ?_
        (refine wpAnyC_take [1, 2, 3, 8] (i := 0) (oi := ⟨some 17, _, _, _, _, _⟩) (v := ?_) rfl (by kernel_rfl) (by kernel_rfl) (by kernel_rfl) (by kernel_rfl) (fun _ _ _ h => h) (Or.inl ⟨by rfl, ?_⟩) hHeld ?_; rotate_left; (focus (intro w hSw; obtain ⟨hSw1, hSw2, hSw3⟩ := hSw; go_simp; first | done | with_reducible rfl)); try simp only [Act.put, List.setIfInBounds_toArray, List.set_cons_zero, List.set_cons_succ])
        (refine wpAnyC_take [2, 3, 8] (i := 1) (oi := ⟨some 18, _, _, _, _, _⟩) (v := ?_) rfl (by kernel_rfl) (by kernel_rfl) (by kernel_rfl) (by kernel_rfl) (fun _ _ _ h => h) (Or.inl ⟨by rfl, ?_⟩) hHeld ?_; rotate_left; (focus (intro w hSw; obtain ⟨hSw1, hSw2, hSw3⟩ := hSw; go_simp; first | done | with_reducible rfl)); try simp only [Act.put, List.setIfInBounds_toArray, List.set_cons_zero, List.set_cons_succ])
        (refine wpAnyC_take [3, 8] (i := 2) (oi := ⟨some 19, _, _, _, _, _⟩) (v := ?_) rfl (by kernel_rfl) (by kernel_rfl) (by kernel_rfl) (by kernel_rfl) (fun _ _ _ h => h) (Or.inl ⟨by rfl, ?_⟩) hHeld ?_; rotate_left; (focus (intro w hSw; obtain ⟨hSw1, hSw2, hSw3⟩ := hSw; go_simp; first | done | with_reducible rfl)); try simp only [Act.put, List.setIfInBounds_toArray, List.set_cons_zero, List.set_cons_succ])
        (refine wpAnyC_take [8] (i := 3) (oi := ⟨some 20, _, _, _, _, _⟩) (v := ?_) rfl (by kernel_rfl) (by kernel_rfl) (by kernel_rfl) (by kernel_rfl) (fun _ _ _ h => h) (Or.inl ⟨by rfl, ?_⟩) hHeld ?_; rotate_left; (focus (intro w hSw; obtain ⟨hSw1, hSw2, hSw3⟩ := hSw; go_simp; first | done | with_reducible rfl)); try simp only [Act.put, List.setIfInBounds_toArray, List.set_cons_zero, List.set_cons_succ])
        (refine wpAnyC_take [5, 8] (i := 4) (oi := ⟨some 21, _, _, _, _, _⟩) (v := ?_) rfl (by kernel_rfl) (by kernel_rfl) (by kernel_rfl) (by kernel_rfl) (fun _ _ _ h => h) (Or.inl ⟨by rfl, ?_⟩) hHeld ?_; rotate_left; (focus (intro w hSw; obtain ⟨hSw1, hSw2, hSw3⟩ := hSw; go_simp; first | done | with_reducible rfl)); try simp only [Act.put, List.setIfInBounds_toArray, List.set_cons_zero, List.set_cons_succ])
        (refine wpAnyC_take [8] (i := 5) (oi := ⟨some 22, _, _, _, _, _⟩) (v := ?_) rfl (by kernel_rfl) (by kernel_rfl) (by kernel_rfl) (by kernel_rfl) (fun _ _ _ h => h) (Or.inl ⟨by rfl, ?_⟩) hHeld ?_; rotate_left; (focus (intro w hSw; obtain ⟨hSw1, hSw2, hSw3⟩ := hSw; go_simp; first | done | with_reducible rfl)); try simp only [Act.put, List.setIfInBounds_toArray, List.set_cons_zero, List.set_cons_succ])
        (refine wpAnyC_take [7, 8] (i := 6) (oi := ⟨some 23, _, _, _, _, _⟩) (v := ?_) rfl (by kernel_rfl) (by kernel_rfl) (by kernel_rfl) (by kernel_rfl) (fun _ _ _ h => h) (Or.inl ⟨by rfl, ?_⟩) hHeld ?_; rotate_left; (focus (intro w hSw; obtain ⟨hSw1, hSw2, hSw3⟩ := hSw; go_simp; first | done | with_reducible rfl)); try simp only [Act.put, List.setIfInBounds_toArray, List.set_cons_zero, List.set_cons_succ])
        (refine wpAnyC_take [8] (i := 7) (oi := ⟨some 24, _, _, _, _, _⟩) (v := .agg L.toArray) rfl (by kernel_rfl) (by kernel_rfl) (by kernel_rfl) (by kernel_rfl) (fun _ _ _ h => h) (yieldsIf_load_mid (by rfl) 98 _ rfl wr.heap.size 1 rfl L _ (fun w h => h.2.2) Try.underlying98 rfl (by rw [HLL.out]; exact size_sec)) hHeld ?_; try simp only [Act.put, List.setIfInBounds_toArray, List.set_cons_zero, List.set_cons_succ])
        refine wpAnyC_c (oi := ⟨none, _, _, _, _, _⟩) rfl (by kernel_rfl) (fun K hK => ?_)
        rw [if_pos (by rfl)]
        go_simp
        refine hK.out _ _ ?_
        clear hK K
        try simp only [Act.put, List.setIfInBounds_toArray, List.set_cons_zero, List.set_cons_succ]
        refine wpAny_done (by kernel_rfl) ?_ _
        go_wp2
        go_roundw
        case rel => exact ⟨k + 1, by omega, by go_num, HD3.out, HM3.out⟩
        case measure => (simp [intOf]; try omega)
      · have hke : k = wait.length := by omega
        subst hke
        have hdd := hd.out
        rw [List.take_length] at hdd
        have hfr := hdd.free 2
        obtain ⟨e0, e1, e2, e3, e4, e5⟩ := hdd.cells
        have HW := Lib.hid (show Wrote w (wr.setCell ⟨p, 2, none⟩ (.slice none 0 0)) p m (.slice a wait.length cap) R by
          rw [HR.out]
          exact ⟨.slice none 0 0, hdd.cleared, (HM1.out.trans hm.out (fun _ _ h => h)).trans (Mod.setCell (F := FP p m (.slice a wait.length cap)) wr _ _ (.inl rfl)) (fun _ _ h => h), fun k hk => by simp [Value.ownBlock] at hk⟩)
        clear hdd
        go_wp2
        go_ret
        exact ⟨rfl, HW.out⟩
end Go.Proofs.Ytmcmocakfhedfaa
