/- disk.New, Fuse. -/
import Derived.Test.YtmcmocakfhedfaaDisk
namespace Go.Proofs.Ytmcmocakfhedfaa
open Go.RowKit

def D.fresh (n : Int) : D.Dsk := ⟨n, fun _ => none, [], false, false, 0⟩

set_option maxRecDepth 100000 in
theorem disk_new_bad (n : Int) (w : World) (h : n < 1 ∨ 4096 < n) :
    Calls Try.prog 27 #[.int .i64 n] w fun e w' => e = .returned (.tuple #[.pointer none, .int .i64 1]) ∧ w = w' := by
  by_cases h1 : n < 1
  · clear h
    go_enter Try.func27, Try.ntmps27
    go_wp2
    go_ret2
    exact ⟨rfl, rfl⟩
  · have h2 : 4096 < n := by omega
    clear h
    go_enter Try.func27, Try.ntmps27
    go_wp2
    go_ret2
    exact ⟨rfl, rfl⟩

set_option maxRecDepth 100000 in
theorem disk_new (n : Int) (w : World) (h1 : 1 ≤ n) (h2 : n ≤ 4096) :
    Calls Try.prog 27 #[.int .i64 n] w fun e w' => e = .returned (.tuple #[.pointer (some ⟨w.heap.size + 1, 0, none⟩), .int .i64 0]) ∧ DiskIn w' (w.heap.size + 1) w.heap.size (.slice none 0 0) (D.fresh n) ∧ Ext w w' := by
  have hmm := @run_makeMap Try.prog
  have hw1 : ¬ n < 1 := by omega
  go_enter Try.func27, Try.ntmps27
  go_wp2
  go_ret2
  refine ⟨rfl, ?_, (Ext.of_alloc w _).alloc _⟩
  have hm := MapAt.made w Try.prog 3
  refine ⟨?_, World.ownsRow_nil _ _ _ _, ?_, ⟨h1, h2, by simp [D.fresh], by simp [D.fresh], by simp [D.fresh], by simp [D.fresh]⟩⟩
  · have := heap_alloc_new (w.alloc (.map #[] 0)) (.cells #[.int .i64 n, .map (some w.heap.size), .slice none 0 0, .bool false, .bool false, .int .i64 0] 96)
    simp only [World.size_alloc] at this
    exact this
  · exact hm.mod (F := fun _ => False) (Mod.of_ext (Ext.of_alloc _ _)) (fun h => h)

def D.fuse (d : D.Dsk) (a : Int) : D.Dsk := if a < 0 then d else if d.down then d else { d with armed := true, after := a }
def D.fuseE (d : D.Dsk) (a : Int) : Int := if a < 0 then 1 else if d.down then 3 else 0

set_option maxRecDepth 100000 in
theorem disk_fuse {w : World} {p m : Nat} {wv : Value} {d : D.Dsk} (h : DiskIn w p m wv d) (a : Int) (ha : a ≤ 9223372036854775807) :
    Calls Try.prog 33 #[.pointer (some ⟨p, 0, none⟩), .int .i64 a] w fun e w' => e = .returned (.int .i64 (D.fuseE d a)) ∧ DiskIn w' p m wv (D.fuse d a) ∧ Mod (FP p m wv) w w' := by
  obtain ⟨n, safe, wait, down, armed, after⟩ := d
  obtain ⟨c0, c1, c2, c3, c4, c5⟩ := h.cells
  have f4 := h.free 4
  have f5 := h.free 5
  have H := Lib.hid h
  by_cases ha0 : a < 0
  · have e1 : D.fuse ⟨n, safe, wait, down, armed, after⟩ a = ⟨n, safe, wait, down, armed, after⟩ := by unfold D.fuse; rw [if_pos ha0]
    have e2 : D.fuseE ⟨n, safe, wait, down, armed, after⟩ a = 1 := by unfold D.fuseE; rw [if_pos ha0]
    rw [e1, e2]
    clear e1 e2 h
    go_enter Try.func33, Try.ntmps33
    go_wp2
    go_ret
    exact ⟨rfl, H.out, Mod.refl _ _⟩
  · cases down
    · have e1 : D.fuse ⟨n, safe, wait, false, armed, after⟩ a = ⟨n, safe, wait, false, true, a⟩ := by unfold D.fuse; rw [if_neg ha0]; rfl
      have e2 : D.fuseE ⟨n, safe, wait, false, armed, after⟩ a = 0 := by unfold D.fuseE; rw [if_neg ha0]; rfl
      rw [e1, e2]
      have hk := h.ok
      have h1 := Lib.hid (H.out.set 4 (.bool true) (d' := ⟨n, safe, wait, false, true, after⟩) rfl rfl rfl ⟨hk.n1, hk.n2, hk.wl, hk.sl, hk.a1, hk.a2⟩)
      have h2 := Lib.hid (h1.out.set 5 (.int .i64 a) (d' := ⟨n, safe, wait, false, true, a⟩) rfl rfl rfl ⟨hk.n1, hk.n2, hk.wl, hk.sl, by show _ ≤ a; omega, ha⟩)
      have hm := Lib.hid ((Mod.setCell (F := FP p m wv) w ⟨p, 4, none⟩ (.bool true) (.inl rfl)).trans (Mod.setCell (F := FP p m wv) _ ⟨p, 5, none⟩ (.int .i64 a) (.inl rfl)) (fun _ _ h => h))
      clear e1 e2 h hk h1
      go_enter Try.func33, Try.ntmps33
      go_wp2
      go_ret
      exact ⟨rfl, h2.out, hm.out⟩
    · have e1 : D.fuse ⟨n, safe, wait, true, armed, after⟩ a = ⟨n, safe, wait, true, armed, after⟩ := by unfold D.fuse; rw [if_neg ha0]; rfl
      have e2 : D.fuseE ⟨n, safe, wait, true, armed, after⟩ a = 3 := by unfold D.fuseE; rw [if_neg ha0]; rfl
      rw [e1, e2]
      clear e1 e2 h
      go_enter Try.func33, Try.ntmps33
      go_wp2
      go_ret
      exact ⟨rfl, H.out, Mod.refl _ _⟩
end Go.Proofs.Ytmcmocakfhedfaa
