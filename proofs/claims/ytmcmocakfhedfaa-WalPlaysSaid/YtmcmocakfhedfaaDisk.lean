/- The disk in memory, and what its small methods do. -/
import Derived.Test.YtmcmocakfhedfaaProg
import Derived.Test.YtmcmocakfhedfaaBase
import Derived.Test.YtmcmocakfhedfaaMod
import Derived.Test.YtmcmocakfhedfaaB8
import Derived.Deep.MidRow
namespace Go.Proofs.Ytmcmocakfhedfaa
open Go.RowKit

namespace D
/-- A disk: how many sectors, what lasts, what waits, the fuse. -/
structure Dsk where
  n : Int
  safe : Int → Option (List UInt8)
  wait : List (Int × List UInt8)
  down : Bool
  armed : Bool
  after : Int
def secVal (s : List UInt8) : Value := .agg (s.map byteVal).toArray
def wrCells (x : Int × List UInt8) : List Value := .int .i64 x.1 :: x.2.map byteVal
def goes (d : Dsk) : Dsk := if d.down then d else if d.armed && d.after == 0 then { d with down := true, armed := false } else { d with after := wrap64 (d.after - 1) }
def done (d : Dsk) : Bool := !d.down && !(d.armed && d.after == 0)
/-- The rows that last, laid over what lasts. -/
def over (f : Int → Option (List UInt8)) (l : List (Int × List UInt8)) : Int → Option (List UInt8) := l.foldl (fun f x => fun j => if j = x.1 then some x.2 else f j) f
structure Ok (d : Dsk) : Prop where
  n1 : 1 ≤ d.n
  n2 : d.n ≤ 4096
  wl : ∀ x ∈ d.wait, x.2.length = 512 ∧ 0 ≤ x.1 ∧ x.1 < d.n
  sl : ∀ k s, d.safe k = some s → s.length = 512 ∧ 0 ≤ k ∧ k < d.n
  a1 : -9223372036854775808 ≤ d.after
  a2 : d.after ≤ 9223372036854775807
end D

/-- The disk d lies in block p, its map in block m, its row of writes is wv. -/
structure DiskIn (w : World) (p m : Nat) (wv : Value) (d : D.Dsk) : Prop where
  blk : w.heap[p]? = some (.cells [.int .i64 d.n, .map (some m), wv, .bool d.down, .bool d.armed, .int .i64 d.after].toArray 96 (0, 0))
  row : w.ownsRow 0 100 513 wv d.wait.length (d.wait.flatMap D.wrCells)
  map : MapAt Try.prog 3 w m (fun k => (d.safe k).map D.secVal)
  ok : D.Ok d
/-- The blocks of a disk. -/
def FP (p m : Nat) (wv : Value) : Nat → Prop := fun k => k = p ∨ k = m ∨ wv.ownBlock = some k

theorem DiskIn.apart {w : World} {p m : Nat} {wv : Value} {d : D.Dsk} (h : DiskIn w p m wv d) : p ≠ m ∧ wv.ownBlock ≠ some p ∧ wv.ownBlock ≠ some m := by
  obtain ⟨es, clock, hb⟩ := h.map.block
  refine ⟨fun e => ?_, fun e => ?_, fun e => ?_⟩
  · have h2 := h.blk; rw [e, hb] at h2; cases h2
  · rcases h.row.2 with ⟨rfl, _⟩ | ⟨g, cap, cur, rfl, _, hh, _⟩
    · simp [Value.ownBlock] at e
    · have : g = p := by simpa [Value.ownBlock] using e
      subst this
      have h2 := h.blk
      rw [hh] at h2
      have h3 : (100 : Nat) = 96 := by injection (Option.some.inj h2)
      exact absurd h3 (by decide)
  · rcases h.row.2 with ⟨rfl, _⟩ | ⟨g, cap, cur, rfl, _, hh, _⟩
    · simp [Value.ownBlock] at e
    · have : g = m := by simpa [Value.ownBlock] using e
      subst this
      rw [hb] at hh; cases hh
theorem DiskIn.shape {w : World} {p m : Nat} {wv : Value} {d : D.Dsk} (h : DiskIn w p m wv d) : ∃ a cap, wv = .slice a d.wait.length cap := by
  rcases h.row.2 with ⟨rfl, h0⟩ | ⟨g, cap, cur, rfl, _⟩
  · exact ⟨none, 0, by rw [h0]⟩
  · exact ⟨_, _, rfl⟩
theorem DiskIn.lt {w : World} {p m : Nat} {wv : Value} {d : D.Dsk} (h : DiskIn w p m wv d) : ∀ k, FP p m wv k → k < w.heap.size := by
  rintro k (rfl | rfl | e)
  · exact blk_lt h.blk
  · exact h.map.lt
  · exact (h.row.lt k e).2
theorem DiskIn.mod {w w' : World} {p m : Nat} {wv : Value} {d : D.Dsk} (h : DiskIn w p m wv d) {F : Nat → Prop} (hm : Mod F w w') (hF : ∀ k, FP p m wv k → ¬ F k) : DiskIn w' p m wv d :=
  ⟨blk_mod h.blk hm (hF p (.inl rfl)), ownsRow_mod h.row hm (fun k hk => hF k (.inr (.inr hk))), h.map.mod hm (hF m (.inr (.inl rfl))), h.ok⟩
theorem DiskIn.ext {w w' : World} {p m : Nat} {wv : Value} {d : D.Dsk} (h : DiskIn w p m wv d) (hx : Ext w w') : DiskIn w' p m wv d := h.mod (F := fun _ => False) (Mod.of_ext hx) (fun _ _ h => h)
/-- The cells, as the walk reads them. -/
theorem DiskIn.cells {w : World} {p m : Nat} {wv : Value} {d : D.Dsk} (h : DiskIn w p m wv d) :
    w.cell? ⟨p, 0, none⟩ = some (.int .i64 d.n) ∧ w.cell? ⟨p, 1, none⟩ = some (.map (some m)) ∧ w.cell? ⟨p, 2, none⟩ = some wv ∧ w.cell? ⟨p, 3, none⟩ = some (.bool d.down) ∧
    w.cell? ⟨p, 4, none⟩ = some (.bool d.armed) ∧ w.cell? ⟨p, 5, none⟩ = some (.int .i64 d.after) :=
  ⟨blk_cell h.blk 0, blk_cell h.blk 1, blk_cell h.blk 2, blk_cell h.blk 3, blk_cell h.blk 4, blk_cell h.blk 5⟩
theorem DiskIn.free {w : World} {p m : Nat} {wv : Value} {d : D.Dsk} (h : DiskIn w p m wv d) (j : Nat) : w.frozen? ⟨p, j, none⟩ = false := blk_free h.blk j
/-- A store into the struct's block. -/
theorem DiskIn.set {w : World} {p m : Nat} {wv : Value} {d d' : D.Dsk} (h : DiskIn w p m wv d) (j : Nat) (u : Value)
    (hl : [Value.int .i64 d.n, .map (some m), wv, .bool d.down, .bool d.armed, .int .i64 d.after].set j u = [.int .i64 d'.n, .map (some m), wv, .bool d'.down, .bool d'.armed, .int .i64 d'.after])
    (hw : d'.wait = d.wait) (hs : d'.safe = d.safe) (hok : D.Ok d') : DiskIn (w.setCell ⟨p, j, none⟩ u) p m wv d' := by
  obtain ⟨h1, h2, h3⟩ := h.apart
  have hm : Mod (fun k => k = p) w (w.setCell ⟨p, j, none⟩ u) := Mod.setCell w _ _ rfl
  refine ⟨?_, ?_, ?_, hok⟩
  · rw [blk_set h.blk j u, hl]
  · rw [hw]; exact ownsRow_mod h.row hm (fun k hk e => h2 (by rw [hk, e]))
  · rw [hs]; exact h.map.mod hm (fun e => h1 e.symm)

set_option maxRecDepth 100000 in
theorem disk_size {w : World} {p m : Nat} {wv : Value} {d : D.Dsk} (h : DiskIn w p m wv d) :
    Calls Try.prog 44 #[.pointer (some ⟨p, 0, none⟩)] w fun e w' => e = .returned (.int .i64 d.n) ∧ w = w' := by
  obtain ⟨c0, c1, c2, c3, c4, c5⟩ := h.cells
  go_enter Try.func44, Try.ntmps44
  go_wp2
  go_ret
  exact ⟨rfl, rfl⟩
set_option maxRecDepth 100000 in
theorem disk_down {w : World} {p m : Nat} {wv : Value} {d : D.Dsk} (h : DiskIn w p m wv d) :
    Calls Try.prog 45 #[.pointer (some ⟨p, 0, none⟩)] w fun e w' => e = .returned (.bool d.down) ∧ w = w' := by
  obtain ⟨c0, c1, c2, c3, c4, c5⟩ := h.cells
  go_enter Try.func45, Try.ntmps45
  go_wp2
  go_ret
  exact ⟨rfl, rfl⟩
set_option maxRecDepth 100000 in
theorem disk_waiting {w : World} {p m : Nat} {wv : Value} {d : D.Dsk} (h : DiskIn w p m wv d) :
    Calls Try.prog 79 #[.pointer (some ⟨p, 0, none⟩)] w fun e w' => e = .returned (.int .i64 (d.wait.length : Int)) ∧ w = w' := by
  obtain ⟨a, cap, rfl⟩ := h.shape
  obtain ⟨c0, c1, c2, c3, c4, c5⟩ := h.cells
  go_enter Try.func79, Try.ntmps79
  go_wp2
  go_ret
  exact ⟨rfl, rfl⟩
set_option maxRecDepth 100000 in
theorem disk_cut {w : World} {p m : Nat} {wv : Value} {d : D.Dsk} (h : DiskIn w p m wv d) :
    Calls Try.prog 35 #[.pointer (some ⟨p, 0, none⟩)] w fun e w' => e = .returned (.tuple #[]) ∧ DiskIn w' p m wv { d with down := true, armed := false } ∧ Mod (FP p m wv) w w' := by
  obtain ⟨c0, c1, c2, c3, c4, c5⟩ := h.cells
  have f3 := h.free 3
  have f4 := h.free 4
  have hok : D.Ok { d with down := true } := ⟨h.ok.n1, h.ok.n2, h.ok.wl, h.ok.sl, h.ok.a1, h.ok.a2⟩
  have hok2 : D.Ok { d with down := true, armed := false } := ⟨h.ok.n1, h.ok.n2, h.ok.wl, h.ok.sl, h.ok.a1, h.ok.a2⟩
  have h1 := Lib.hid (h.set 3 (.bool true) (d' := { d with down := true }) rfl rfl rfl hok)
  have h2 := Lib.hid (h1.out.set 4 (.bool false) (d' := { d with down := true, armed := false }) rfl rfl rfl hok2)
  have hm := Lib.hid ((Mod.setCell (F := FP p m wv) w ⟨p, 3, none⟩ (.bool true) (.inl rfl)).trans (Mod.setCell (F := FP p m wv) _ ⟨p, 4, none⟩ (.bool false) (.inl rfl)) (fun _ _ h => h))
  clear h h1 hok hok2
  go_enter Try.func35, Try.ntmps35
  go_wp2
  go_end0
  exact ⟨rfl, h2.out, hm.out⟩

theorem goes_ok {d : D.Dsk} (h : D.Ok d) : D.Ok (D.goes d) := by
  unfold D.goes
  split
  · exact h
  · split
    · exact ⟨h.n1, h.n2, h.wl, h.sl, h.a1, h.a2⟩
    · have hw : -9223372036854775808 ≤ wrap64 (d.after - 1) ∧ wrap64 (d.after - 1) ≤ 9223372036854775807 := by unfold wrap64; omega
      exact ⟨h.n1, h.n2, h.wl, h.sl, hw.1, hw.2⟩

set_option maxRecDepth 100000 in
set_option maxHeartbeats 800000 in
theorem disk_goes {w : World} {p m : Nat} {wv : Value} {d : D.Dsk} (h : DiskIn w p m wv d) :
    Calls Try.prog 49 #[.pointer (some ⟨p, 0, none⟩)] w fun e w' => e = .returned (.bool (D.done d)) ∧ DiskIn w' p m wv (D.goes d) ∧ Mod (FP p m wv) w w' := by
  obtain ⟨n, safe, wait, down, armed, after⟩ := d
  obtain ⟨c0, c1, c2, c3, c4, c5⟩ := h.cells
  have f5 := h.free 5
  have hok := goes_ok h.ok
  have H := Lib.hid h
  cases down
  · by_cases hz : (armed && after == 0) = true
    · obtain ⟨rfl, hz2⟩ : armed = true ∧ after = 0 := by simpa using hz
      subst hz2
      have he : D.goes ⟨n, safe, wait, false, true, 0⟩ = ⟨n, safe, wait, true, false, 0⟩ := rfl
      have hd : D.done ⟨n, safe, wait, false, true, 0⟩ = false := rfl
      rw [he, hd]
      clear he hd hz hok h
      go_enter Try.func49, Try.ntmps49
      go_wp2_with fail
      refine (disk_cut H.out).mono ?_
      rintro e w1 ⟨rfl, h1, hm⟩
      have H1 := Lib.hid h1
      have HM := Lib.hid hm
      clear h1 hm
      go_wp2
      go_ret
      exact ⟨rfl, H1.out, HM.out⟩
    · have he : D.goes ⟨n, safe, wait, false, armed, after⟩ = ⟨n, safe, wait, false, armed, wrap64 (after - 1)⟩ := by
        unfold D.goes
        simp only [Bool.false_eq_true, if_false, if_neg hz]
      have hd : D.done ⟨n, safe, wait, false, armed, after⟩ = true := by
        unfold D.done
        simp only [Bool.not_false, Bool.true_and]
        cases armed <;> simp_all
      rw [he] at hok
      rw [he, hd]
      have H2 := Lib.hid (H.out.set 5 (.int .i64 (wrap64 (after - 1))) (d' := ⟨n, safe, wait, false, armed, wrap64 (after - 1)⟩) rfl rfl rfl hok)
      have HM := Lib.hid (Mod.setCell (F := FP p m wv) w ⟨p, 5, none⟩ (.int .i64 (wrap64 (after - 1))) (.inl rfl))
      clear he hd h hok
      cases armed
      · clear hz
        go_enter Try.func49, Try.ntmps49
        go_wp2
        go_ret
        exact ⟨rfl, H2.out, HM.out⟩
      · have hz2 : (after == 0) = false := by simpa using hz
        clear hz
        go_enter Try.func49, Try.ntmps49
        go_wp2
        go_ret
        exact ⟨rfl, H2.out, HM.out⟩
  · have he : D.goes ⟨n, safe, wait, true, armed, after⟩ = ⟨n, safe, wait, true, armed, after⟩ := rfl
    have hd : D.done ⟨n, safe, wait, true, armed, after⟩ = false := rfl
    rw [he, hd]
    clear he hd hok h
    go_enter Try.func49, Try.ntmps49
    go_wp2
    go_ret
    exact ⟨rfl, H.out, Mod.refl _ _⟩
end Go.Proofs.Ytmcmocakfhedfaa
