/- disk.Clone. -/
import Derived.Test.YtmlancmcgcjodaaDisk7
namespace Go.Proofs.Ytmlancmcgcjodaa
open Go.RowKit

theorem info_dsk_parts : ∃ it z, Try.prog.info? 62 = some it ∧ it.zero = some z ∧ it.size = 6 ∧ z.cells.size = 6 := by
  have hi : (Try.prog.info? 62).map (fun i => (i.zero.map (·.cells.size), i.size)) = some (some 6, 6) := by kernel_rfl
  cases hq : Try.prog.info? 62 with
  | none => rw [hq] at hi; cases hi
  | some it =>
    rw [hq] at hi
    simp only [Option.map_some, Option.some.injEq, Prod.mk.injEq] at hi
    cases hz : it.zero with
    | none => rw [hz] at hi; simp at hi
    | some z =>
      rw [hz] at hi
      simp only [Option.map_some, Option.some.injEq] at hi
      exact ⟨it, z, rfl, hz, hi.2, hi.1⟩
theorem size_dsk : (Try.prog.info? 62).map (·.size) = some 6 := by kernel_rfl

/-- A disk of its own. -/
def Cloned (w w' : World) (d : D.Dsk) (e : Ending) : Prop := ∃ p m wv, e = .returned (.pointer (some ⟨p, 0, none⟩)) ∧ DiskIn w' p m wv d ∧ (∀ k, FP p m wv k → w.heap.size ≤ k) ∧ Ext w w'

theorem DiskIn.rowOne {w : World} {p m : Nat} {wv : Value} {d : D.Dsk} (h : DiskIn w p m wv d) : ∀ u ∈ d.wait.flatMap D.wrCells, u.oneCell' = true := by
  intro u hu
  obtain ⟨x, _, hx⟩ := List.mem_flatMap.1 hu
  rcases List.mem_cons.1 hx with rfl | hx
  · rfl
  · exact bytes_one x.2 u hx

set_option maxRecDepth 100000 in
set_option maxHeartbeats 1600000 in
theorem disk_clone {w : World} {p m : Nat} {wv : Value} {d : D.Dsk} (h : DiskIn w p m wv d) (hwn : d.wait.length ≤ 1073741824) :
    Calls Try.prog 22 #[.pointer (some ⟨p, 0, none⟩)] w fun e w' => Cloned w w' d e := by
  obtain ⟨it, z, hit, hz0, hz1, hz2⟩ := info_dsk_parts
  obtain ⟨it3, z3, hit3, hz30, hz31, hz32, hz33⟩ := info_wr_parts
  have HD := Lib.hid h
  obtain ⟨n, safe, wait, down, armed, after⟩ := d
  simp only at hwn
  have HWN := Lib.hid hwn
  clear hwn h
  have hrg : w.rangeAt p 0 [Value.int .i64 n, .map (some m), wv, .bool down, .bool armed, .int .i64 after] := range_of_blk HD.out.blk 0 _ rfl
  have hone : Hid (∀ u ∈ [Value.int .i64 n, .map (some m), wv, .bool down, .bool armed, .int .i64 after], u.oneCell' = true) := by
    obtain ⟨a, cap, rfl⟩ := HD.out.shape
    intro u hu
    simp only [List.mem_cons, List.not_mem_nil, or_false] at hu
    rcases hu with rfl | rfl | rfl | rfl | rfl | rfl <;> rfl
  have HRG := Lib.hid hrg
  have HZ := Lib.hid hz2
  clear hrg
  go_enter Try.func22, Try.ntmps22
  go_wp2_with (first
    | ((with_reducible show wpList _ _ _ (⟨some 6, Op.load _ _, _, _, _, _⟩ :: _) _ _); refine wpList_load_mid rfl 62 _ rfl p 0 rfl [Value.int .i64 n, .map (some m), wv, .bool down, .bool armed, .int .i64 after] _ HRG.out Try.underlying62 rfl size_dsk ?_)
    | ((with_reducible show wpList _ _ _ (⟨some 3, Op.alloc _, _, _, _, _⟩ :: _) _ _); refine wpl_alloc _ rfl 62 rfl it z hit hz0 ?_; intro Z hZ)
    | ((with_reducible show wpList _ _ _ (⟨none, Op.store _ _ _, _, _, _, _⟩ :: _) _ _); refine wpl_store_all _ rfl 62 _ _ rfl w.heap.size 62 Z (heap_alloc_new w _) rfl [Value.int .i64 n, .map (some m), wv, .bool down, .bool armed, .int .i64 after] rfl (by rw [hZ]; exact HZ.out) size_dsk hone.out ?_; intro w1 hb1 hm1 hsz1; have hx1 : Ext w w1 := hm1.ext (Ext.of_alloc w _) (fun k e => by omega); have HD1 := Lib.hid (HD.out.ext hx1); obtain ⟨c0, c1, c2, c3, c4, c5⟩ := HD1.out.cells)
    | fail)
  obtain ⟨es, clock, hbm, hcl⟩ := HD1.out.map.clone
  refine (maps_clone w1 m es clock hbm).mono ?_
  rintro e w2 ⟨rfl, rfl⟩
  have hsz : w1.heap.size = w.heap.size + 1 := by rw [hsz1]; simp
  have hx2 : Ext w1 (w1.alloc (.map es clock)) := Ext.of_alloc w1 _
  have hb2 : (w1.alloc (.map es clock)).heap[w.heap.size]? = some (.cells [Value.int .i64 n, .map (some m), wv, .bool down, .bool armed, .int .i64 after].toArray 62 (0, 0)) := blk_mod (F := fun _ => False) hb1 (Mod.of_ext hx2) (fun h => h)
  have k1 := blk_cell hb2 1
  have k2 := blk_free hb2 1
  have hb3 := blk_set hb2 1 (.map (some w1.heap.size))
  have hm3 : Mod (fun k => k = w.heap.size) (w1.alloc (.map es clock)) ((w1.alloc (.map es clock)).setCell ⟨w.heap.size, 1, none⟩ (.map (some w1.heap.size))) := Mod.setCell _ _ _ rfl
  have hx3 : Ext w ((w1.alloc (.map es clock)).setCell ⟨w.heap.size, 1, none⟩ (.map (some w1.heap.size))) := hm3.ext (hx1.trans hx2) (fun k e => by omega)
  have HD3 := Lib.hid (HD.out.ext hx3)
  obtain ⟨d0, d1, d2, d3, d4, d5⟩ := HD3.out.cells
  have HMAP : Hid (MapAt Try.prog 3 ((w1.alloc (.map es clock)).setCell ⟨w.heap.size, 1, none⟩ (.map (some w1.heap.size))) w1.heap.size (fun k => (safe k).map D.secVal)) := by
    refine (hcl (w1.alloc (.map es clock)) (heap_alloc_new w1 _)).mod hm3 (by omega)
  have HX3 := Lib.hid hx3
  have HB3 := Lib.hid hb3
  have HS3 : Hid (((w1.alloc (.map es clock)).setCell ⟨w.heap.size, 1, none⟩ (.map (some w1.heap.size))).heap.size = w.heap.size + 2) := by unfold Hid; simp; omega
  have HSZ := Lib.hid hsz
  have hone2 := Lib.hid (HD.out.rowOne)
  clear hb1 hm1 hsz1 hx1 c0 c1 c2 c3 c4 c5 hbm hcl hx2 hb2 hb3 hm3 hx3 hsz
  go_wp2_with (first
    | (at_builtin; refine wpl_append_row _ rfl _ _ 60 rfl (w.heap.size + 2) 66 it3 z3 513 520 Try.underlying60 hit3 hz30 hz31 hz32 hz33 (by decide) (.slice none 0 0) 0 [] rfl ⟨by simp, .inl ⟨rfl, rfl⟩⟩ wv wait.length (wait.flatMap D.wrCells) 0 rfl HD3.out.row hone2.out (by have := HWN.out; unfold maxLen; omega) (by have := HWN.out; omega) (by rw [HS3.out]; exact Nat.le_refl _) ?_; intro v' w4 hown hg; rw [Nat.zero_add, List.nil_append] at hown; obtain ⟨va, vcap, hv'⟩ : ∃ va vcap, v' = .slice va wait.length vcap := hown.2.elim (fun ⟨e, h0⟩ => ⟨none, 0, by rw [e, h0]⟩) (fun ⟨g, cap, cur, e, _⟩ => ⟨_, _, e⟩); subst hv'; have hm4 : Mod (fun _ => False) _ w4 := Mod.grown hg (fun k e _ => by cases e); have hb4 := blk_mod HB3.out hm4 (fun h => h); have k4 := blk_cell hb4 2; have k5 := blk_free hb4 2)
    | fail)
  have HFIN : Cloned w (w4.setCell ⟨w.heap.size, 2, none⟩ (.slice va wait.length vcap)) ⟨n, safe, wait, down, armed, after⟩ (.returned (.pointer (some ⟨w.heap.size, 0, none⟩))) := by
    have hs1 := HSZ.out
    have hlo : ∀ k, (Value.slice va wait.length vcap).ownBlock = some k → w.heap.size + 2 ≤ k := fun k hk => (hown.lt k hk).1
    have hm5 : Mod (fun k => k = w.heap.size) w4 (w4.setCell ⟨w.heap.size, 2, none⟩ (.slice va wait.length vcap)) := Mod.setCell _ _ _ rfl
    refine ⟨w.heap.size, w1.heap.size, .slice va wait.length vcap, rfl, ⟨?_, ?_, (HMAP.out.mod hm4 (fun h => h)).mod hm5 (by omega), HD.out.ok⟩, ?_, hm5.ext (hm4.ext HX3.out (fun k h => h.elim)) (fun k e => by omega)⟩
    · rw [blk_set hb4 2]; rfl
    · exact ownsRow_base (ownsRow_mod hown hm5 (fun k hk e => by have := hlo k hk; omega)) (fun k _ => Nat.zero_le k)
    · rintro k (rfl | rfl | e)
      · exact Nat.le_refl _
      · omega
      · have := hlo k e; omega
  clear hown hg hm4 hb4 k4 k5
  go_ret
  exact HFIN
end Go.Proofs.Ytmlancmcgcjodaa
