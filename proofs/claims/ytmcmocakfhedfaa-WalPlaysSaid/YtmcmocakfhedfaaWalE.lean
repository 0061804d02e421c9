/- wal: an area's first sector, what room is left. -/
import Derived.Test.YtmcmocakfhedfaaWalD
import Derived.Deep.RegionHeld3
import Derived.Deep.QuietTactic
import Derived.BigQuiet
import Derived.WalkSmall
namespace Go.Proofs.Ytmcmocakfhedfaa
open Go.RowKit

namespace W5
def area (d : D.Dsk) : Nat := (areaI d.n).toNat
def areaAt (d : D.Dsk) (gen : Nat) : Nat := 2 + gen % 2 * area d
theorem area_eq (d : D.Dsk) : areaI d.n = (area d : Int) := by unfold area areaI; split <;> omega
theorem area_le (d : D.Dsk) (h : d.n ≤ 4096) : area d ≤ 2047 := by unfold area areaI; split <;> omega
end W5

section
variable {w0 w : World} {X : Nat → Prop} {p q : Nat} {d : D.Dsk}
set_option maxRecDepth 100000 in
set_option maxHeartbeats 800000 in
theorem larea_any (h : Held w0 w X p d) (hq : w.cell? ⟨q, 0, none⟩ = some (.pointer (some ⟨p, 0, none⟩))) (gen : Nat) (hg : gen < 4294967296) :
    Calls Try.prog 65 #[.pointer (some ⟨q, 0, none⟩), .int .u32 (gen : Int)] w fun e w' => e = .returned (.int .i64 (W5.areaAt d gen : Int)) ∧ w = w' := by
  have HD := Lib.hid h
  have hn1 := h.okd.n1
  have hn2 := h.okd.n2
  have hal := W5.area_le d hn2
  have hae := W5.area_eq d
  have hun : W5.areaAt d gen = 2 + gen % 2 * W5.area d := rfl
  have HUN := Lib.hid hun
  clear h hun
  have hgi : (gen : Int) < 4294967296 := by omega
  obtain ⟨r, hr⟩ : ∃ r, r = gen % 2 := ⟨_, rfl⟩
  have htm : (gen : Int).tmod 2 = (r : Int) := by rw [hr, Int.ofNat_tmod]; rfl
  have hr2 : (r : Int) ≤ 1 := by omega
  rw [← hr] at HUN
  clear hr
  go_enter Try.func65, Try.ntmps65
  go_wp2_with fail
  refine (held_size HD.out).mono ?_
  rintro e w1 ⟨rfl, rfl⟩
  go_wp2_with fail
  refine (area_any d.n w (by omega) (by omega)).mono ?_
  rintro e w1 ⟨rfl, rfl⟩
  rw [hae]
  clear hae
  generalize W5.area d = A at *
  have hai : (A : Int) ≤ 2047 := by omega
  have hm1 : (r : Int) * (A : Int) ≤ 2047 := by
    have : r = 0 ∨ r = 1 := by omega
    rcases this with rfl | rfl <;> simp <;> omega
  have hm0 : 0 ≤ (r : Int) * (A : Int) := Int.mul_nonneg (by omega) (by omega)
  go_wp2
  go_ret
  refine ⟨?_, rfl⟩
  rw [HUN.out, Int.natCast_add, Int.natCast_mul]
  rfl

set_option maxRecDepth 100000 in
set_option maxHeartbeats 800000 in
theorem generation_any (q : Nat) (gen : Int) (w : World) (hq : w.cell? ⟨q, 1, none⟩ = some (.int .u32 gen)) :
    Calls Try.prog 23 #[.pointer (some ⟨q, 0, none⟩)] w fun e w' => e = .returned (.int .u32 gen) ∧ w = w' := by
  go_enter Try.func23, Try.ntmps23
  go_wp2
  go_ret
  exact ⟨rfl, rfl⟩

set_option maxRecDepth 100000 in
set_option maxHeartbeats 800000 in
theorem room_any (h : Held w0 w X p d) (hq : w.cell? ⟨q, 0, none⟩ = some (.pointer (some ⟨p, 0, none⟩))) (used : Nat) (hu : used ≤ 1000000) (hq2 : w.cell? ⟨q, 2, none⟩ = some (.int .i64 (used : Int))) :
    Calls Try.prog 18 #[.pointer (some ⟨q, 0, none⟩)] w fun e w' => e = .returned (.int .i64 ((W5.area d : Int) - (used : Int))) ∧ Ext w w' := by
  have HD := Lib.hid h
  have hn1 := h.okd.n1
  have hn2 := h.okd.n2
  have hal := W5.area_le d hn2
  have hae := W5.area_eq d
  have hxn : ∀ n, Ext w (w.drewN n) := fun n => below_drewN (Ext.refl w) n
  have hs : ∀ n, Calls Try.prog 44 #[.pointer (some ⟨p, 0, none⟩)] (w.drewN n) fun e w' => e = .returned (.int .i64 d.n) ∧ w' = w.drewN n := fun n => (held_size (h.after_ext (hxn n))).mono (fun _ _ hh => ⟨hh.1, hh.2.symm⟩)
  have ha : ∀ n, Calls Try.prog 13 #[.int .i64 d.n] (w.drewN n) fun e w' => e = .returned (.int .i64 (W5.areaI d.n)) ∧ w' = w.drewN n := fun n => (area_any d.n (w.drewN n) (by omega) (by omega)).mono (fun _ _ hh => ⟨hh.1, hh.2.symm⟩)
  rw [hae] at ha
  clear h hae
  have hui : (used : Int) ≤ 1000000 := by omega
  generalize W5.area d = A at *
  have hai : (A : Int) ≤ 2047 := by omega
  go_enter Try.func18, Try.ntmps18
  go_wp2_with fail
  go_quiet (first
    | (go_at_call 44; exact Calls.quiet_of_same (hs _))
    | (go_at_call 13; exact Calls.quiet_of_same (ha _)))
  go_wp2
  go_ret
  exact ⟨rfl, hxn _⟩
end
end Go.Proofs.Ytmcmocakfhedfaa
