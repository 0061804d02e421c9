/- disk.Read. -/
import Derived.Test.YtmcmocakfhedfaaDisk
import Derived.Test.YtmcmocakfhedfaaDisk3
import Derived.Test.YtmcmocakfhedfaaBig
namespace Go.Proofs.Ytmcmocakfhedfaa
open Go.RowKit

namespace D
/-- The last write of a sector in a row. -/
def look (l : List (Int × List UInt8)) (i : Int) : Option (List UInt8) := (l.reverse.find? (fun x => x.1 == i)).map Prod.snd
theorem look_snoc (l : List (Int × List UInt8)) (x : Int × List UInt8) (i : Int) : look (l ++ [x]) i = if x.1 = i then some x.2 else look l i := by
  unfold look
  rw [List.reverse_append, List.reverse_singleton, List.singleton_append, List.find?_cons]
  by_cases h : x.1 = i
  · simp [h]
  · simp [h, beq_eq_false_iff_ne.2 h]
theorem look_take (l : List (Int × List UInt8)) (k : Nat) (h : k < l.length) (i : Int) : look (l.take (k + 1)) i = if l[k].1 = i then some l[k].2 else look (l.take k) i := by
  rw [List.take_succ_eq_append_getElem h, look_snoc]
def sector (d : Dsk) (i : Int) : List UInt8 := (look d.wait i).getD ((d.safe i).getD (List.replicate 512 0))
end D
theorem wr_len {d : D.Dsk} (h : D.Ok d) : ∀ x ∈ d.wait, (D.wrCells x).length = 513 := fun x hx => by simp [D.wrCells, (h.wl x hx).1]
theorem look_len {d : D.Dsk} (h : D.Ok d) (i : Int) (s : List UInt8) (hs : D.look d.wait i = some s) : s.length = 512 := by
  unfold D.look at hs
  obtain ⟨x, hx, rfl⟩ := Option.map_eq_some_iff.1 hs
  have := List.mem_of_find?_eq_some hx
  exact (h.wl x (by simpa using this)).1
theorem sector_len {d : D.Dsk} (h : D.Ok d) (i : Int) : (D.sector d i).length = 512 := by
  unfold D.sector
  cases hl : D.look d.wait i with
  | some s => rw [Option.getD_some]; exact look_len h i s hl
  | none =>
    cases hs : d.safe i with
    | some s => rw [Option.getD_none, Option.getD_some]; exact (h.sl i s hs).1
    | none => rw [Option.getD_none, Option.getD_none]; exact List.length_replicate

theorem info_sec_parts : ∃ it z, Try.prog.info? 98 = some it ∧ it.zero = some z ∧ it.size = 512 ∧ z = .agg ((List.replicate 512 (0 : UInt8)).map byteVal).toArray := by
  have hi : (Try.prog.info? 98).map (fun i => (i.zero, i.size)) = some (some (.agg ((List.replicate 512 (0 : UInt8)).map byteVal).toArray), 512) := by kernel_rfl
  cases hq : Try.prog.info? 98 with
  | none => rw [hq] at hi; cases hi
  | some it =>
    rw [hq] at hi
    simp only [Option.map_some, Option.some.injEq, Prod.mk.injEq] at hi
    exact ⟨it, _, rfl, hi.1, hi.2, rfl⟩

/-- What is read lies in new memory. -/
def Got (w w' : World) (s : List UInt8) (e : Ending) : Prop := ∃ v, e = .returned (.tuple #[v, .int .i64 0]) ∧ w'.ownsRow w.heap.size 98 1 v 512 (s.map byteVal) ∧ Ext w w'
theorem got_mk {w w1 : World} {L : List UInt8} (hx : Ext w w1) {g : Nat} (hg : w.heap.size ≤ g) (hb : w1.heap[g]? = some (.cells (L.map byteVal).toArray 98 (0, 0))) (hL : L.length = 512) :
    Got w w1 L (.returned (.tuple #[.slice (some ⟨g, 0, none⟩) 512 512, .int .i64 0])) :=
  ⟨_, rfl, ⟨by simpa using hL, .inr ⟨g, 512, _, rfl, hg, hb, Nat.le_refl _, by unfold maxLen; omega, by simpa using hL, by rw [List.take_of_length_le (by simp [hL])]⟩⟩, hx⟩

set_option maxRecDepth 100000 in
set_option maxHeartbeats 800000 in
theorem disk_read_bad {w : World} {p m : Nat} {wv : Value} {d : D.Dsk} (h : DiskIn w p m wv d) (i : Int) (hbad : i < 0 ∨ d.n ≤ i ∨ d.down = true) :
    Calls Try.prog 24 #[.pointer (some ⟨p, 0, none⟩), .int .i64 i] w fun e w' => e = .returned (.tuple #[.slice none 0 0, .int .i64 (if i < 0 ∨ d.n ≤ i then 1 else 3)]) ∧ w = w' := by
  obtain ⟨n, safe, wait, down, armed, after⟩ := d
  obtain ⟨c0, c1, c2, c3, c4, c5⟩ := h.cells
  simp only at hbad c0 c1 c2 c3 c4 c5
  by_cases h1 : i < 0 ∨ n ≤ i
  · have e1 : (if i < 0 ∨ n ≤ i then (1 : Int) else 3) = 1 := if_pos h1
    simp only at e1 ⊢
    rw [e1]
    clear e1 hbad h
    by_cases h2 : i < 0
    · clear h1
      go_enter Try.func24, Try.ntmps24
      go_wp2
      go_ret2
      exact ⟨rfl, rfl⟩
    · have h3 : n ≤ i := by omega
      clear h1
      go_enter Try.func24, Try.ntmps24
      go_wp2
      go_ret2
      exact ⟨rfl, rfl⟩
  · have e1 : (if i < 0 ∨ n ≤ i then (1 : Int) else 3) = 3 := if_neg h1
    simp only at e1 ⊢
    rw [e1]
    have h2 : 0 ≤ i := by omega
    have h3 : i < n := by omega
    have h4 : down = true := by rcases hbad with h | h | h <;> first | omega | exact h
    subst h4
    clear e1 hbad h h1
    go_enter Try.func24, Try.ntmps24
    go_wp2
    go_ret2
    exact ⟨rfl, rfl⟩

set_option maxRecDepth 100000 in
set_option maxHeartbeats 1600000 in
theorem disk_read {w : World} {p m : Nat} {wv : Value} {d : D.Dsk} (h : DiskIn w p m wv d) (i : Int) (h1 : 0 ≤ i) (h2 : i < d.n) (h3 : d.down = false) :
    Calls Try.prog 24 #[.pointer (some ⟨p, 0, none⟩), .int .i64 i] w fun e w' => Got w w' (D.sector d i) e := by
  obtain ⟨n, safe, wait, down, armed, after⟩ := d
  obtain ⟨c0, c1, c2, c3, c4, c5⟩ := h.cells
  simp only at h2 h3 c0 c1 c2 c3 c4 c5
  subst h3
  obtain ⟨it, z, hit, hz0, hz1, hz2⟩ := info_sec_parts
  have H := Lib.hid h
  have hshape := h.shape
  obtain ⟨a, cap, rfl⟩ := hshape
  have hn2 := h.ok.n2
  simp only at hn2
  have hwl : wait.length ≤ 9223372036854775807 := by
    rcases h.row.2 with ⟨_, h0⟩ | ⟨g, cp, cur, _, _, _, hnc, hcm, _⟩
    · simp only at h0; omega
    · unfold maxLen at hcm; simp only at hnc; omega
  clear h
  go_enter Try.func24, Try.ntmps24
  go_wp2
  go_loop [6] (fun kv => ∃ k : Nat, k ≤ wait.length ∧ kv = .int .i64 ((k : Int) - 1) ∧ Hid (D.look wait i = D.look (wait.take k) i)) (fun kv => (intOf kv + 1).toNat)
  case atStart => exact ⟨wait.length, Nat.le_refl _, rfl, by unfold Hid; rw [List.take_length]⟩
  case round =>
    obtain ⟨k, hk, rfl, hlk⟩ := hrel
    match k, hk, hlk with
    | 0, hk, hlk =>
      have hnone : D.look wait i = none := by rw [hlk.out]; rfl
      obtain ⟨S, hS⟩ : ∃ S, S = D.sector ⟨n, safe, wait, false, armed, after⟩ i := ⟨_, rfl⟩
      have hSl : S.length = 512 := by rw [hS]; exact sector_len H.out.ok i
      have hlook : (Instr.lookup 93 (.map (some m)) (.int .i64 i) false).run Try.prog w = .ok (.agg (S.map byteVal).toArray) w := by
        have h5 := H.out.map.get Try.underlying3 (t := 93) (e := 98) Try.underlying93 (z := z) (by simp [zeroValue, typeInfo, hit, hz0]) i (by omega) (by omega)
        rw [h5]
        congr 1
        rw [hS]
        unfold D.sector
        simp only [hnone, Option.getD_none]
        cases safe i with
        | none => simp only [Option.map_none, Option.getD_none]; exact hz2
        | some s => simp only [Option.map_some, Option.getD_some]; rfl
      obtain ⟨L, hL⟩ : ∃ L, L = S.map byteVal := ⟨_, rfl⟩
      rw [← hL] at hlook
      have HLL := Lib.hid (show L.length = 512 by rw [hL, List.length_map]; exact hSl)
      have HL := Lib.hid hL
      have HL1 := Lib.hid (show ∀ u ∈ L, u.oneCell' = true by rw [hL]; exact bytes_one S)
      have HS := Lib.hid hS
      have HSL := Lib.hid hSl
      clear hL hS hSl hnone
      have hzc : Hid (z.cells.size = 512) := by
        have h6 : Hid (((List.replicate 512 (0 : UInt8)).map byteVal).length = 512) := by unfold Hid; rw [List.length_map]; exact List.length_replicate
        unfold Hid
        rw [hz2]
        show (((List.replicate 512 (0 : UInt8)).map byteVal).toArray).size = 512
        rw [List.size_toArray]; exact h6.out
      clear hz2
      go_wp2_with (first
        | ((with_reducible show wpList _ _ _ (⟨some 8, Op.alloc _, _, _, _, _⟩ :: _) _ _); refine wpl_alloc _ rfl 98 rfl it z hit hz0 ?_; intro Z hZ)
        | ((with_reducible show wpList _ _ _ (⟨none, Op.store _ _ _, _, _, _, _⟩ :: _) _ _); refine wpl_store_all _ rfl 98 _ _ rfl w.heap.size 98 Z (heap_alloc_new w _) rfl L rfl (by rw [hZ, HLL.out]; exact hzc.out) (by rw [HLL.out]; exact size_sec) HL1.out ?_; intro w2 hb2 hm2 hsz2))
      rw [HL.out] at hb2
      have hx2 : Ext w w2 := hm2.ext (Ext.of_alloc w _) (fun k e => by omega)
      go_ret2
      rw [← HS.out]
      exact got_mk hx2 (Nat.le_refl _) hb2 HSL.out
    | k + 1, hk, hlk =>
      have e : (((k + 1 : Nat) : Int) - 1) = (k : Int) := by omega
      rw [e]
      clear e
      have hkl : k < wait.length := by omega
      obtain ⟨g, cp, heq, _, _, hcp, hcm, hrg⟩ := own_range H.out.row (wr_len H.out.ok) (by decide) k hkl
      simp only [Value.slice.injEq] at heq
      obtain ⟨rfl, _, rfl⟩ := heq
      have hr := hrg k hkl
      have hck : w.cell? ⟨g, k * 513, none⟩ = some (.int .i64 wait[k].1) := hr 0 _ rfl
      have hrL : w.rangeAt g (k * 513 + 1) (wait[k].2.map byteVal) := fun j v hj => by
        have := hr (j + 1) v (by simpa [D.wrCells] using hj)
        rw [Nat.add_assoc, Nat.add_comm 1 j]; exact this
      have hlt := D.look_take wait k hkl i
      have hsl : wait[k].2.length = 512 := (H.out.ok.wl _ (List.getElem_mem hkl)).1
      by_cases hmi : wait[k].1 = i
      · rw [if_pos hmi] at hlt
        obtain ⟨S, hS⟩ : ∃ S, S = D.sector ⟨n, safe, wait, false, armed, after⟩ i := ⟨_, rfl⟩
        have hS2 : S = wait[k].2 := by rw [hS]; unfold D.sector; simp only [hlk.out, hlt, Option.getD_some]
        obtain ⟨L, hL⟩ : ∃ L, L = S.map byteVal := ⟨_, rfl⟩
        have HRG := Lib.hid (show w.rangeAt g (k * 513 + 1) L by rw [hL, hS2]; exact hrL)
        have HLL := Lib.hid (show L.length = 512 by rw [hL, List.length_map, hS2]; exact hsl)
        have HL := Lib.hid hL
        have HL1 := Lib.hid (show ∀ u ∈ L, u.oneCell' = true by rw [hL]; exact bytes_one S)
        have HS := Lib.hid hS
        have HSL := Lib.hid (show S.length = 512 by rw [hS2]; exact hsl)
        have hzc : Hid (z.cells.size = 512) := by
          have h6 : Hid (((List.replicate 512 (0 : UInt8)).map byteVal).length = 512) := by unfold Hid; rw [List.length_map]; exact List.length_replicate
          unfold Hid
          rw [hz2]
          show (((List.replicate 512 (0 : UInt8)).map byteVal).toArray).size = 512
          rw [List.size_toArray]; exact h6.out
        rw [hmi] at hck
        clear hL hS hS2 hsl hlt hrL hr hrg hz2 hmi
        go_wp2_with (first
          | ((with_reducible show wpList _ _ _ (⟨some 7, Op.alloc _, _, _, _, _⟩ :: _) _ _); refine wpl_alloc _ rfl 98 rfl it z hit hz0 ?_; intro Z hZ)
          | ((with_reducible show wpList _ _ _ (⟨some 52, Op.load _ _, _, _, _, _⟩ :: _) _ _); refine wpList_load_mid rfl 98 _ rfl g (k * 513 + 1) rfl L _ HRG.out Try.underlying98 rfl (by rw [HLL.out]; exact size_sec) ?_)
          | ((with_reducible show wpList _ _ _ (⟨none, Op.store _ _ _, _, _, _, _⟩ :: _) _ _); refine wpl_store_all _ rfl 98 _ _ rfl w.heap.size 98 Z (heap_alloc_new w _) rfl L rfl (by rw [hZ, HLL.out]; exact hzc.out) (by rw [HLL.out]; exact size_sec) HL1.out ?_; intro w2 hb2 hm2 hsz2))
        rw [HL.out] at hb2
        have hx2 : Ext w w2 := hm2.ext (Ext.of_alloc w _) (fun k e => by omega)
        go_ret2
        rw [← HS.out]
        exact got_mk hx2 (Nat.le_refl _) hb2 HSL.out
      · rw [if_neg hmi] at hlt
        have hne : (wait[k].1 == i) = false := beq_eq_false_iff_ne.2 hmi
        have hl2 : Hid (D.look wait i = D.look (wait.take k) i) := by unfold Hid; rw [hlk.out, hlt]
        clear hlt hsl hrL hr hrg hlk hmi
        go_wp2
        go_round
        case rel => exact ⟨k, by omega, rfl, hl2⟩
        case measure => (simp [intOf]; try omega)
end Go.Proofs.Ytmcmocakfhedfaa
