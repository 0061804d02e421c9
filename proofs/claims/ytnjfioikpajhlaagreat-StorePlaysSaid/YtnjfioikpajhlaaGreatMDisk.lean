/- MDisk: Disk Disk2 Disk3 Disk4 Disk5 Disk6 Held AppRow. -/
import Derived.Test.YtnjfioikpajhlaaGreatProg
import Derived.Test.YtnjfioikpajhlaaGreatMBase
import Derived.Test.YtnjfioikpajhlaaGreatMBase
import Derived.Test.YtnjfioikpajhlaaGreatMBase
import Derived.Deep.MidRow
import Derived.Deep.AppendLies
import Derived.Laws.AppendOwnNone
set_option maxRecDepth 100000
set_option maxHeartbeats 64000000
namespace Go.Proofs.YtnjfioikpajhlaaGreat
open Go.RowKit
namespace D
structure Dsk where
 n : Int
 safe : Int -> Option (List UInt8)
 wait : List (Int × List UInt8)
 down : Bool
 armed : Bool
 after : Int
def secVal (s : List UInt8) : Value := .agg (s.map byteVal).toArray
def wrCells (x : Int × List UInt8) : List Value := .int .i64 x.1 :: x.2.map byteVal
def goes (d : Dsk) : Dsk := if d.down then d else if d.armed && d.after == 0 then { d with down := true, armed := false } else { d with after := wrap64 (d.after - 1) }
def done (d : Dsk) : Bool := !d.down && !(d.armed && d.after == 0)
def over (f : Int -> Option (List UInt8)) (l : List (Int × List UInt8)) : Int -> Option (List UInt8) := l.foldl (fun f x => fun j => if j = x.1 then some x.2 else f j) f
structure Ok (d : Dsk) : Prop where
 n1 : 1 <= d.n
 n2 : d.n <= 4096
 wl : ∀ x ∈ d.wait, x.2.length = 512 /\ 0 <= x.1 /\ x.1 < d.n
 sl : ∀ k s, d.safe k = some s -> s.length = 512 /\ 0 <= k /\ k < d.n
 a1 : -9223372036854775808 <= d.after
 a2 : d.after <= 9223372036854775807
end D
structure DiskIn (w : World) (p m : Nat) (wv : Value) (d : D.Dsk) : Prop where
 blk : w.heap[p]? = some (.cells [.int .i64 d.n, .map (some m), wv, .bool d.down, .bool d.armed, .int .i64 d.after].toArray 79 (0, 0))
 row : w.ownsRow 0 121 513 wv d.wait.length (d.wait.flatMap D.wrCells)
 map : MapAt Tryz.prog 3 w m (fun k => (d.safe k).map D.secVal)
 ok : D.Ok d
def FP (p m : Nat) (wv : Value) : Nat -> Prop := fun k => k = p ∨ k = m ∨ wv.ownBlock = some k
theorem DiskIn.apart {w : World} {p m : Nat} {wv : Value} {d : D.Dsk} (h : DiskIn w p m wv d) : p ≠ m /\ wv.ownBlock ≠ some p /\ wv.ownBlock ≠ some m := by
 obtain ⟨es, clock, hb⟩ := h.map.block
 refine ⟨fun e => ?_, fun e => ?_, fun e => ?_⟩
 ·have h2 := h.blk; rw [e, hb] at h2; cases h2
 ·rcases h.row.2 with ⟨rfl, _⟩ | ⟨g, cap, cur, rfl, _, hh, _⟩
  ·simp [Value.ownBlock] at e
  ·have : g = p := by simpa [Value.ownBlock] using e
   subst this
   have h2 := h.blk
   rw [hh] at h2
   have h3 : (121 : Nat) = 79 := by injection (Option.some.inj h2)
   exact absurd h3 (by decide)
 ·rcases h.row.2 with ⟨rfl, _⟩ | ⟨g, cap, cur, rfl, _, hh, _⟩
  ·simp [Value.ownBlock] at e
  ·have : g = m := by simpa [Value.ownBlock] using e
   subst this
   rw [hb] at hh; cases hh
theorem DiskIn.shape {w : World} {p m : Nat} {wv : Value} {d : D.Dsk} (h : DiskIn w p m wv d) : ∃ a cap, wv = .slice a d.wait.length cap := by
 rcases h.row.2 with ⟨rfl, h0⟩ | ⟨g, cap, cur, rfl, _⟩
 ·exact ⟨none, 0, by rw [h0]⟩
 ·exact ⟨_, _, rfl⟩
theorem DiskIn.lt {w : World} {p m : Nat} {wv : Value} {d : D.Dsk} (h : DiskIn w p m wv d) : ∀ k, FP p m wv k -> k < w.heap.size := by
 rintro k (rfl | rfl | e)
 ·exact blk_lt h.blk
 ·exact h.map.lt
 ·exact (h.row.lt k e).2
theorem DiskIn.mod {w w' : World} {p m : Nat} {wv : Value} {d : D.Dsk} (h : DiskIn w p m wv d) {F : Nat -> Prop} (hm : Mod F w w') (hF : ∀ k, FP p m wv k -> ¬ F k) : DiskIn w' p m wv d :=
 ⟨blk_mod h.blk hm (hF p (.inl rfl)), ownsRow_mod h.row hm (fun k hk => hF k (.inr (.inr hk))), h.map.mod hm (hF m (.inr (.inl rfl))), h.ok⟩
theorem DiskIn.ext {w w' : World} {p m : Nat} {wv : Value} {d : D.Dsk} (h : DiskIn w p m wv d) (hx : Ext w w') : DiskIn w' p m wv d := h.mod (F := fun _ => False) (Mod.of_ext hx) (fun _ _ h => h)
theorem DiskIn.cells {w : World} {p m : Nat} {wv : Value} {d : D.Dsk} (h : DiskIn w p m wv d) :
 w.cell? ⟨p, 0, none⟩ = some (.int .i64 d.n) /\ w.cell? ⟨p, 1, none⟩ = some (.map (some m)) /\ w.cell? ⟨p, 2, none⟩ = some wv /\ w.cell? ⟨p, 3, none⟩ = some (.bool d.down) /\
 w.cell? ⟨p, 4, none⟩ = some (.bool d.armed) /\ w.cell? ⟨p, 5, none⟩ = some (.int .i64 d.after) :=
 ⟨blk_cell h.blk 0, blk_cell h.blk 1, blk_cell h.blk 2, blk_cell h.blk 3, blk_cell h.blk 4, blk_cell h.blk 5⟩
theorem DiskIn.free {w : World} {p m : Nat} {wv : Value} {d : D.Dsk} (h : DiskIn w p m wv d) (j : Nat) : w.frozen? ⟨p, j, none⟩ = false := blk_free h.blk j
theorem DiskIn.set {w : World} {p m : Nat} {wv : Value} {d d' : D.Dsk} (h : DiskIn w p m wv d) (j : Nat) (u : Value)
 (hl : [Value.int .i64 d.n, .map (some m), wv, .bool d.down, .bool d.armed, .int .i64 d.after].set j u = [.int .i64 d'.n, .map (some m), wv, .bool d'.down, .bool d'.armed, .int .i64 d'.after])
 (hw : d'.wait = d.wait) (hs : d'.safe = d.safe) (hok : D.Ok d') : DiskIn (w.setCell ⟨p, j, none⟩ u) p m wv d' := by
 obtain ⟨h1, h2, h3⟩ := h.apart
 have hm : Mod (fun k => k = p) w (w.setCell ⟨p, j, none⟩ u) := Mod.setCell w _ _ rfl
 refine ⟨?_, ?_, ?_, hok⟩
 ·rw [blk_set h.blk j u, hl]
 ·rw [hw]; exact ownsRow_mod h.row hm (fun k hk e => h2 (by rw [hk, e]))
 ·rw [hs]; exact h.map.mod hm (fun e => h1 e.symm)
theorem disk_size {w : World} {p m : Nat} {wv : Value} {d : D.Dsk} (h : DiskIn w p m wv d) :
 Calls Tryz.prog 26 #[.pointer (some ⟨p, 0, none⟩)] w fun e w' => e = .returned (.int .i64 d.n) /\ w = w' := by
 obtain ⟨c0, c1, c2, c3, c4, c5⟩ := h.cells
 go_enter Tryz.func26, Tryz.ntmps26
 go_wp2
 go_ret
 exact ⟨rfl, rfl⟩
theorem disk_down {w : World} {p m : Nat} {wv : Value} {d : D.Dsk} (h : DiskIn w p m wv d) :
 Calls Tryz.prog 52 #[.pointer (some ⟨p, 0, none⟩)] w fun e w' => e = .returned (.bool d.down) /\ w = w' := by
 obtain ⟨c0, c1, c2, c3, c4, c5⟩ := h.cells
 go_enter Tryz.func52, Tryz.ntmps52
 go_wp2
 go_ret
 exact ⟨rfl, rfl⟩
theorem disk_waiting {w : World} {p m : Nat} {wv : Value} {d : D.Dsk} (h : DiskIn w p m wv d) :
 Calls Tryz.prog 53 #[.pointer (some ⟨p, 0, none⟩)] w fun e w' => e = .returned (.int .i64 (d.wait.length : Int)) /\ w = w' := by
 obtain ⟨a, cap, rfl⟩ := h.shape
 obtain ⟨c0, c1, c2, c3, c4, c5⟩ := h.cells
 go_enter Tryz.func53, Tryz.ntmps53
 go_wp2
 go_ret
 exact ⟨rfl, rfl⟩
theorem disk_cut {w : World} {p m : Nat} {wv : Value} {d : D.Dsk} (h : DiskIn w p m wv d) :
 Calls Tryz.prog 113 #[.pointer (some ⟨p, 0, none⟩)] w fun e w' => e = .returned (.tuple #[]) /\ DiskIn w' p m wv { d with down := true, armed := false } /\ Mod (FP p m wv) w w' := by
 obtain ⟨c0, c1, c2, c3, c4, c5⟩ := h.cells
 have f3 := h.free 3
 have f4 := h.free 4
 have hok : D.Ok { d with down := true } := ⟨h.ok.n1, h.ok.n2, h.ok.wl, h.ok.sl, h.ok.a1, h.ok.a2⟩
 have hok2 : D.Ok { d with down := true, armed := false } := ⟨h.ok.n1, h.ok.n2, h.ok.wl, h.ok.sl, h.ok.a1, h.ok.a2⟩
 have h1 := qh (h.set 3 (.bool true) (d' := { d with down := true }) rfl rfl rfl hok)
 have h2 := qh (h1.out.set 4 (.bool false) (d' := { d with down := true, armed := false }) rfl rfl rfl hok2)
 have hm := qh ((Mod.setCell (F := FP p m wv) w ⟨p, 3, none⟩ (.bool true) (.inl rfl)).trans (Mod.setCell (F := FP p m wv) _ ⟨p, 4, none⟩ (.bool false) (.inl rfl)) (fun _ _ h => h))
 clear h h1 hok hok2
 go_enter Tryz.func113, Tryz.ntmps113
 go_wp2
 go_end0
 exact ⟨rfl, h2.out, hm.out⟩
theorem goes_ok {d : D.Dsk} (h : D.Ok d) : D.Ok (D.goes d) := by
 unfold D.goes
 split
 ·exact h
 ·split
  ·exact ⟨h.n1, h.n2, h.wl, h.sl, h.a1, h.a2⟩
  ·have hw : -9223372036854775808 <= wrap64 (d.after - 1) /\ wrap64 (d.after - 1) <= 9223372036854775807 := by unfold wrap64; omega
   exact ⟨h.n1, h.n2, h.wl, h.sl, hw.1, hw.2⟩
theorem disk_goes {w : World} {p m : Nat} {wv : Value} {d : D.Dsk} (h : DiskIn w p m wv d) :
 Calls Tryz.prog 103 #[.pointer (some ⟨p, 0, none⟩)] w fun e w' => e = .returned (.bool (D.done d)) /\ DiskIn w' p m wv (D.goes d) /\ Mod (FP p m wv) w w' := by
 obtain ⟨n, safe, wait, down, armed, after⟩ := d
 obtain ⟨c0, c1, c2, c3, c4, c5⟩ := h.cells
 have f5 := h.free 5
 have hok := goes_ok h.ok
 have H := qh h
 cases down
 ·by_cases hz : (armed && after == 0) = true
  ·obtain ⟨rfl, hz2⟩ : armed = true /\ after = 0 := by simpa using hz
   subst hz2
   have he : D.goes ⟨n, safe, wait, false, true, 0⟩ = ⟨n, safe, wait, true, false, 0⟩ := rfl
   have hd : D.done ⟨n, safe, wait, false, true, 0⟩ = false := rfl
   rw [he, hd]
   clear he hd hz hok h
   go_enter Tryz.func103, Tryz.ntmps103
   go_wp2_with fail
   refine (disk_cut H.out).mono ?_
   rintro e w1 ⟨rfl, h1, hm⟩
   have H1 := qh h1
   have HM := qh hm
   clear h1 hm
   go_wp2
   go_ret
   exact ⟨rfl, H1.out, HM.out⟩
  ·have he : D.goes ⟨n, safe, wait, false, armed, after⟩ = ⟨n, safe, wait, false, armed, wrap64 (after - 1)⟩ := by
    unfold D.goes
    simp only [Bool.false_eq_true, if_false, if_neg hz]
   have hd : D.done ⟨n, safe, wait, false, armed, after⟩ = true := by
    unfold D.done
    simp only [Bool.not_false, Bool.true_and]
    cases armed <;> simp_all
   rw [he] at hok
   rw [he, hd]
   have H2 := qh (H.out.set 5 (.int .i64 (wrap64 (after - 1))) (d' := ⟨n, safe, wait, false, armed, wrap64 (after - 1)⟩) rfl rfl rfl hok)
   have HM := qh (Mod.setCell (F := FP p m wv) w ⟨p, 5, none⟩ (.int .i64 (wrap64 (after - 1))) (.inl rfl))
   clear he hd h hok
   cases armed
   ·clear hz
    go_enter Tryz.func103, Tryz.ntmps103
    go_wp2
    go_ret
    exact ⟨rfl, H2.out, HM.out⟩
   ·have hz2 : (after == 0) = false := by simpa using hz
    clear hz
    go_enter Tryz.func103, Tryz.ntmps103
    go_wp2
    go_ret
    exact ⟨rfl, H2.out, HM.out⟩
 ·have he : D.goes ⟨n, safe, wait, true, armed, after⟩ = ⟨n, safe, wait, true, armed, after⟩ := rfl
  have hd : D.done ⟨n, safe, wait, true, armed, after⟩ = false := rfl
  rw [he, hd]
  clear he hd hok h
  go_enter Tryz.func103, Tryz.ntmps103
  go_wp2
  go_ret
  exact ⟨rfl, H.out, Mod.refl _ _⟩
end Go.Proofs.YtnjfioikpajhlaaGreat
namespace Go.Proofs.YtnjfioikpajhlaaGreat
open Go.RowKit
def D.fresh (n : Int) : D.Dsk := ⟨n, fun _ => none, [], false, false, 0⟩
theorem disk_new_bad (n : Int) (w : World) (h : n < 1 ∨ 4096 < n) :
 Calls Tryz.prog 5 #[.int .i64 n] w fun e w' => e = .returned (.tuple #[.pointer none, .int .i64 1]) /\ w = w' := by
 by_cases h1 : n < 1
 ·clear h
  go_enter Tryz.func5, Tryz.ntmps5
  go_wp2
  go_ret2
  exact ⟨rfl, rfl⟩
 ·have h2 : 4096 < n := by omega
  clear h
  go_enter Tryz.func5, Tryz.ntmps5
  go_wp2
  go_ret2
  exact ⟨rfl, rfl⟩
theorem disk_new (n : Int) (w : World) (h1 : 1 <= n) (h2 : n <= 4096) :
 Calls Tryz.prog 5 #[.int .i64 n] w fun e w' => e = .returned (.tuple #[.pointer (some ⟨w.heap.size + 1, 0, none⟩), .int .i64 0]) /\ DiskIn w' (w.heap.size + 1) w.heap.size (.slice none 0 0) (D.fresh n) /\ Ext w w' := by
 have hmm := @run_makeMap Tryz.prog
 have hw1 : ¬ n < 1 := by omega
 go_enter Tryz.func5, Tryz.ntmps5
 go_wp2
 go_ret2
 refine ⟨rfl, ?_, (Ext.of_alloc w _).alloc _⟩
 have hm := MapAt.made w Tryz.prog 3
 refine ⟨?_, World.ownsRow_nil _ _ _ _, ?_, ⟨h1, h2, by simp [D.fresh], by simp [D.fresh], by simp [D.fresh], by simp [D.fresh]⟩⟩
 ·have := heap_alloc_new (w.alloc (.map #[] 0)) (.cells #[.int .i64 n, .map (some w.heap.size), .slice none 0 0, .bool false, .bool false, .int .i64 0] 79)
  simp only [World.size_alloc] at this
  exact this
 ·exact hm.mod (F := fun _ => False) (Mod.of_ext (Ext.of_alloc _ _)) (fun h => h)
def D.fuse (d : D.Dsk) (a : Int) : D.Dsk := if a < 0 then d else if d.down then d else { d with armed := true, after := a }
def D.fuseE (d : D.Dsk) (a : Int) : Int := if a < 0 then 1 else if d.down then 3 else 0
theorem disk_fuse {w : World} {p m : Nat} {wv : Value} {d : D.Dsk} (h : DiskIn w p m wv d) (a : Int) (ha : a <= 9223372036854775807) :
 Calls Tryz.prog 15 #[.pointer (some ⟨p, 0, none⟩), .int .i64 a] w fun e w' => e = .returned (.int .i64 (D.fuseE d a)) /\ DiskIn w' p m wv (D.fuse d a) /\ Mod (FP p m wv) w w' := by
 obtain ⟨n, safe, wait, down, armed, after⟩ := d
 obtain ⟨c0, c1, c2, c3, c4, c5⟩ := h.cells
 have f4 := h.free 4
 have f5 := h.free 5
 have H := qh h
 by_cases ha0 : a < 0
 ·have e1 : D.fuse ⟨n, safe, wait, down, armed, after⟩ a = ⟨n, safe, wait, down, armed, after⟩ := by unfold D.fuse; rw [if_pos ha0]
  have e2 : D.fuseE ⟨n, safe, wait, down, armed, after⟩ a = 1 := by unfold D.fuseE; rw [if_pos ha0]
  rw [e1, e2]
  clear e1 e2 h
  go_enter Tryz.func15, Tryz.ntmps15
  go_wp2
  go_ret
  exact ⟨rfl, H.out, Mod.refl _ _⟩
 ·cases down
  ·have e1 : D.fuse ⟨n, safe, wait, false, armed, after⟩ a = ⟨n, safe, wait, false, true, a⟩ := by unfold D.fuse; rw [if_neg ha0]; rfl
   have e2 : D.fuseE ⟨n, safe, wait, false, armed, after⟩ a = 0 := by unfold D.fuseE; rw [if_neg ha0]; rfl
   rw [e1, e2]
   have hk := h.ok
   have h1 := qh (H.out.set 4 (.bool true) (d' := ⟨n, safe, wait, false, true, after⟩) rfl rfl rfl ⟨hk.n1, hk.n2, hk.wl, hk.sl, hk.a1, hk.a2⟩)
   have h2 := qh (h1.out.set 5 (.int .i64 a) (d' := ⟨n, safe, wait, false, true, a⟩) rfl rfl rfl ⟨hk.n1, hk.n2, hk.wl, hk.sl, by show _ <= a; omega, ha⟩)
   have hm := qh ((Mod.setCell (F := FP p m wv) w ⟨p, 4, none⟩ (.bool true) (.inl rfl)).trans (Mod.setCell (F := FP p m wv) _ ⟨p, 5, none⟩ (.int .i64 a) (.inl rfl)) (fun _ _ h => h))
   clear e1 e2 h hk h1
   go_enter Tryz.func15, Tryz.ntmps15
   go_wp2
   go_ret
   exact ⟨rfl, h2.out, hm.out⟩
  ·have e1 : D.fuse ⟨n, safe, wait, true, armed, after⟩ a = ⟨n, safe, wait, true, armed, after⟩ := by unfold D.fuse; rw [if_neg ha0]; rfl
   have e2 : D.fuseE ⟨n, safe, wait, true, armed, after⟩ a = 3 := by unfold D.fuseE; rw [if_neg ha0]; rfl
   rw [e1, e2]
   clear e1 e2 h
   go_enter Tryz.func15, Tryz.ntmps15
   go_wp2
   go_ret
   exact ⟨rfl, H.out, Mod.refl _ _⟩
end Go.Proofs.YtnjfioikpajhlaaGreat
namespace Go.Proofs.YtnjfioikpajhlaaGreat
open Go.RowKit
def D.write (d : D.Dsk) (i : Int) (s : List UInt8) : D.Dsk :=
 if i < 0 ∨ d.n <= i then d else if s.length ≠ 512 then d else if d.down then d else { D.goes d with wait := d.wait ++ [(i, s)] }
def D.writeE (d : D.Dsk) (i : Int) (s : List UInt8) : Int :=
 if i < 0 ∨ d.n <= i then 1 else if s.length ≠ 512 then 2 else if d.down then 3 else if D.done d then 0 else 3
theorem info_wr : (Tryz.prog.info? 121).map (fun i => (i.zero.map (·.cells.size), i.size, i.bytes)) = some (some 513, 513, 520) := by kernel_rfl
theorem info_wr_parts : ∃ it z, Tryz.prog.info? 121 = some it /\ it.zero = some z /\ it.size = 513 /\ it.bytes = 520 /\ z.cells.size = 513 := by
 have hi := info_wr
 cases hq : Tryz.prog.info? 121 with
 | none => rw [hq] at hi; cases hi
 | some it =>
  rw [hq] at hi
  simp only [Option.map_some, Option.some.injEq, Prod.mk.injEq] at hi
  cases hz : it.zero with
  | none => rw [hz] at hi; simp at hi
  | some z =>
   rw [hz] at hi
   simp only [Option.map_some, Option.some.injEq] at hi
   exact ⟨it, z, rfl, hz, hi.2.1, hi.2.2, hi.1⟩
theorem places_wr : ∀ fields, Tryz.prog.underlying 121 = some (.struct fields) -> fields.toList.mapM (fun f => (Tryz.prog.info? f.type).map fun i => (f.offset, i.size)) = some [(0, 1), (1, 512)] := by
 intro fields h
 rw [Tryz.underlying121] at h
 obtain rfl := Option.some.inj h |> TypeDesc.struct.inj
 kernel_rfl
theorem size_sec : (Tryz.prog.info? 119).map (·.size) = some 512 := by kernel_rfl
theorem fields_wr : ∃ fields, Tryz.prog.underlying 121 = some (.struct fields) := ⟨_, Tryz.underlying121⟩
theorem built_wr (i : Int) (L : List Value) (hL : L.length = 512) : Tryz.prog.built 121 [(0, .int .i64 i), (1, .agg L.toArray)] = some (.int .i64 i :: L).toArray := by
 obtain ⟨fields, hf⟩ := fields_wr
 have hi := info_wr
 cases hq : Tryz.prog.info? 121 with
 | none => rw [hq] at hi; cases hi
 | some it =>
  rw [hq] at hi
  simp only [Option.map_some, Option.some.injEq, Prod.mk.injEq] at hi
  cases hz : it.zero with
  | none => rw [hz] at hi; simp at hi
  | some z =>
   rw [hz] at hi
   simp only [Option.map_some, Option.some.injEq] at hi
   exact built_two 121 fields it z 512 hf hq hz hi.1 (places_wr fields hf) (.int .i64 i) rfl L hL
theorem buildSlice_wr (w : World) (cs : List Value) (hc : cs.length = 513) : (Instr.buildSlice 77 1 #[(0, .agg cs.toArray)]).run Tryz.prog w = .ok (.slice (some ⟨w.heap.size, 0, none⟩) 1 1) (w.alloc (.cells cs.toArray 121)) := by
 have hi := info_wr
 cases hq : Tryz.prog.info? 121 with
 | none => rw [hq] at hi; cases hi
 | some it =>
  rw [hq] at hi
  simp only [Option.map_some, Option.some.injEq, Prod.mk.injEq] at hi
  cases hz : it.zero with
  | none => rw [hz] at hi; simp at hi
  | some z =>
   rw [hz] at hi
   simp only [Option.map_some, Option.some.injEq] at hi
   exact run_buildSlice_one w 77 121 it z (.agg cs.toArray) Tryz.underlying77 hq hz (by omega) (by omega) (by omega) (by show cs.toArray.size = _; simp; omega)
theorem disk_write_bad {w : World} {p m : Nat} {wv : Value} {d : D.Dsk} (h : DiskIn w p m wv d) (i : Int) (v : Value) (s : List UInt8) (hs : Bs w v s)
 (hbad : i < 0 ∨ d.n <= i ∨ s.length ≠ 512 ∨ d.down = true) :
 Calls Tryz.prog 102 #[.pointer (some ⟨p, 0, none⟩), .int .i64 i, v] w fun e w' => e = .returned (.int .i64 (D.writeE d i s)) /\ D.write d i s = d /\ w = w' := by
 obtain ⟨n, safe, wait, down, armed, after⟩ := d
 obtain ⟨c0, c1, c2, c3, c4, c5⟩ := h.cells
 obtain ⟨a, cap, rfl⟩ := hs.shape
 simp only at hbad
 by_cases h1 : i < 0 ∨ n <= i
 ·have e1 : Hid (D.write ⟨n, safe, wait, down, armed, after⟩ i s = ⟨n, safe, wait, down, armed, after⟩) := by unfold Hid D.write; rw [if_pos h1]
  have e2 : Hid (D.writeE ⟨n, safe, wait, down, armed, after⟩ i s = 1) := by unfold Hid D.writeE; rw [if_pos h1]
  rw [e1.out, e2.out]
  clear hbad h e1 e2 hs
  by_cases h2 : i < 0
  ·clear h1
   go_enter Tryz.func102, Tryz.ntmps102
   go_wp2
   go_ret
   exact ⟨rfl, rfl⟩
  ·have h3 : n <= i := by omega
   clear h1
   go_enter Tryz.func102, Tryz.ntmps102
   go_wp2
   go_ret
   exact ⟨rfl, rfl⟩
 ·have h2 : 0 <= i := by omega
  have h3 : i < n := by omega
  by_cases h4 : s.length = 512
  ·have hdn : down = true := by rcases hbad with h | h | h | h <;> first | omega | exact h
   subst hdn
   have e1 : Hid (D.write ⟨n, safe, wait, true, armed, after⟩ i s = ⟨n, safe, wait, true, armed, after⟩) := by unfold Hid D.write; rw [if_neg h1, if_neg (by simpa using h4)]; rfl
   have e2 : Hid (D.writeE ⟨n, safe, wait, true, armed, after⟩ i s = 3) := by unfold Hid D.writeE; rw [if_neg h1, if_neg (by simpa using h4)]; rfl
   rw [e1.out, e2.out]
   have hl : ((s.length : Int) != 512) = false := by simp; omega
   clear hbad h e1 e2 hs h1 h4
   go_enter Tryz.func102, Tryz.ntmps102
   go_wp2
   go_ret
   exact ⟨rfl, rfl⟩
  ·have e1 : Hid (D.write ⟨n, safe, wait, down, armed, after⟩ i s = ⟨n, safe, wait, down, armed, after⟩) := by unfold Hid D.write; rw [if_neg h1, if_pos h4]
   have e2 : Hid (D.writeE ⟨n, safe, wait, down, armed, after⟩ i s = 2) := by unfold Hid D.writeE; rw [if_neg h1, if_pos h4]
   rw [e1.out, e2.out]
   have hl : ((s.length : Int) != 512) = true := by rw [bne_iff_ne]; omega
   clear hbad h e1 e2 hs h1 h4
   go_enter Tryz.func102, Tryz.ntmps102
   go_wp2
   go_ret
   exact ⟨rfl, rfl⟩
def Wrote (w w' : World) (p m : Nat) (wv : Value) (d : D.Dsk) : Prop := ∃ wv', DiskIn w' p m wv' d /\ Mod (FP p m wv) w w' /\ (∀ k, wv'.ownBlock = some k -> wv.ownBlock = some k ∨ w.heap.size <= k)
theorem write_after {w1 w2 : World} {p m : Nat} {wv : Value} {G : D.Dsk} (h : DiskIn w1 p m wv G) (o : Obj) (g cap : Nat) (i : Int) (s : List UInt8) (hi : 0 <= i /\ i < G.n) (hs : s.length = 512)
 (hown : w2.ownsRow 0 121 513 (.slice (some ⟨g, 0, none⟩) (G.wait.length + 1) cap) (G.wait.length + 1) (G.wait.flatMap D.wrCells ++ (.int .i64 i :: s.map byteVal)))
 (hg : (w1.drew.alloc o).grownBy w2 wv.ownBlock) (hat : wv.ownBlock = some g ∨ g = w1.heap.size + 1) :
 w2.cell? ⟨p, 2, none⟩ = some wv /\ w2.frozen? ⟨p, 2, none⟩ = false /\
 DiskIn (w2.setCell ⟨p, 2, none⟩ (.slice (some ⟨g, 0, none⟩) (G.wait.length + 1) cap)) p m (.slice (some ⟨g, 0, none⟩) (G.wait.length + 1) cap) { G with wait := G.wait ++ [(i, s)] } /\
 Mod (FP p m wv) w1 (w2.setCell ⟨p, 2, none⟩ (.slice (some ⟨g, 0, none⟩) (G.wait.length + 1) cap)) /\ (wv.ownBlock = some g ∨ w1.heap.size <= g) := by
 obtain ⟨a1, a2, a3⟩ := h.apart
 have hx : Ext w1 (w1.drew.alloc o) := (Ext.of_drew w1).alloc o
 have hm : Mod (fun k => wv.ownBlock = some k) (w1.drew.alloc o) w2 := Mod.grown hg (fun k e _ => e)
 have hb2 : w2.heap[p]? = some (.cells [.int .i64 G.n, .map (some m), wv, .bool G.down, .bool G.armed, .int .i64 G.after].toArray 79 (0, 0)) :=
  blk_mod (blk_mod h.blk (F := fun _ => False) (Mod.of_ext hx) (fun h => h)) hm a2
 have hgp : g ≠ p := by
  have hp := blk_lt h.blk
  rintro rfl
  rcases hat with e | e
  ·exact a2 e
  ·omega
 refine ⟨blk_cell hb2 2, blk_free hb2 2, ⟨?_, ?_, ?_, ?_⟩, ?_, ?_⟩
 ·rw [blk_set hb2 2]; rfl
 ·have h2 := ownsRow_mod hown (Mod.setCell (F := fun k => k = p) w2 ⟨p, 2, none⟩ (.slice (some ⟨g, 0, none⟩) (G.wait.length + 1) cap) rfl) (fun k hk e => hgp (by
   have : g = k := by simpa [Value.ownBlock] using hk
   rw [this, e]))
  have e1 : (G.wait ++ [(i, s)]).length = G.wait.length + 1 := by simp
  have e2 : (G.wait ++ [(i, s)]).flatMap D.wrCells = G.wait.flatMap D.wrCells ++ (.int .i64 i :: s.map byteVal) := by simp [D.wrCells]
  show World.ownsRow _ 0 _ 513 _ (G.wait ++ [(i, s)]).length ((G.wait ++ [(i, s)]).flatMap D.wrCells)
  rw [e1, e2]; exact h2
 ·exact ((h.map.mod (F := fun _ => False) (Mod.of_ext hx) (fun h => h)).mod hm a3).mod (Mod.setCell (F := fun k => k = p) w2 _ _ rfl) (fun e => a1 e.symm)
 ·refine ⟨h.ok.n1, h.ok.n2, fun x hx => ?_, h.ok.sl, h.ok.a1, h.ok.a2⟩
  rcases List.mem_append.1 hx with hx | hx
  ·exact h.ok.wl x hx
  ·obtain rfl := List.mem_singleton.1 hx
   exact ⟨hs, hi.1, hi.2⟩
 ·exact ((Mod.of_ext hx).trans (hm.mono (fun k hk => .inr (.inr hk))) (fun _ _ h => h)).trans (Mod.setCell (F := FP p m wv) w2 ⟨p, 2, none⟩ _ (.inl rfl)) (fun _ _ h => h)
 ·rcases hat with e | e
  ·exact .inl e
  ·exact .inr (by omega)
theorem disk_write_ok {w : World} {p m : Nat} {wv : Value} {d : D.Dsk} (h : DiskIn w p m wv d) (i : Int) (b off cap : Nat) (s : List UInt8) (_hcap : s.length <= cap)
 (hs : ∀ j (h : j < s.length), w.cell? ⟨b, off + j, none⟩ = some (.int .u8 (s[j].toNat : Int))) (hbF : ¬ FP p m wv b)
 (h1 : 0 <= i) (h2 : i < d.n) (h3 : s.length = 512) (h4 : d.down = false) (hw : d.wait.length <= 1073741824) :
 Calls Tryz.prog 102 #[.pointer (some ⟨p, 0, none⟩), .int .i64 i, .slice (some ⟨b, off, none⟩) s.length cap] w fun e w' =>
  e = .returned (.int .i64 (if D.done d then 0 else 3)) /\ Wrote w w' p m wv { D.goes d with wait := d.wait ++ [(i, s)] } := by
 obtain ⟨n, safe, wait, down, armed, after⟩ := d
 simp only at h2 h4 hw
 subst h4
 obtain ⟨c0, c1, c2, c3, c4, c5⟩ := h.cells
 simp only at c0 c1 c2 c3 c4 c5
 have H := qh h
 have HS := qh hs
 clear hs h
 have hl : ((s.length : Int) != 512) = false := by simp; omega
 have hsc : (512 : Int) <= (s.length : Int) := by omega
 have hgw : (D.goes ⟨n, safe, wait, false, armed, after⟩).wait = wait := by unfold D.goes; simp only [Bool.false_eq_true, if_false]; split <;> rfl
 have hGn : (D.goes ⟨n, safe, wait, false, armed, after⟩).n = n := by unfold D.goes; simp only [Bool.false_eq_true, if_false]; split <;> rfl
 have HS3 := qh h3
 obtain ⟨it, z, hit, hz0, hz1, hz2, hz3⟩ := info_wr_parts
 have HGO := qh (disk_goes H.out)
 generalize D.goes ⟨n, safe, wait, false, armed, after⟩ = G at *
 generalize D.done ⟨n, safe, wait, false, armed, after⟩ = dn at *
 have hGnn := qh hGn
 clear hGn
 have HG := qh hgw
 clear hgw
 go_enter Tryz.func102, Tryz.ntmps102
 go_wp2_with fail
 refine HGO.out.mono ?_
 rintro e w1 ⟨rfl, hd1, hm1⟩
 have HD1 := qh hd1
 have HM1 := qh hm1
 clear hd1 hm1 c0 c1 c2 c3 c4 c5
 obtain ⟨es2, es3, es4, es5, es6, es7⟩ := HD1.out.cells
 obtain ⟨L, hL⟩ : ∃ L, L = s.map byteVal := ⟨_, rfl⟩
 have hLl : L.length = 512 := by rw [hL, List.length_map]; exact h3
 have hL1 : ∀ u ∈ L, u.oneCell' = true := by rw [hL]; exact bytes_one s
 have hrange : w1.rangeAt b off L := by
  intro j u hj
  rw [hL] at hj
  have hj' : j < s.length := by simpa using (List.getElem?_eq_some_iff.1 hj).1
  simp [hj'] at hj
  subst hj
  exact HM1.out.cell (HS.out j hj') hbF
 have hbuild : ∀ w : World, (Instr.build 121 #[(0, .int .i64 i), (1, .agg L.toArray)]).run Tryz.prog w = .ok (.agg (.int .i64 i :: L).toArray) w := fun w => run_build w _ _ _ (built_wr i L hLl)
 have hbs : ∀ w : World, (Instr.buildSlice 77 1 #[(0, .agg (.int .i64 i :: L).toArray)]).run Tryz.prog w = .ok (.slice (some ⟨w.heap.size, 0, none⟩) 1 1) (w.alloc (.cells (.int .i64 i :: L).toArray 121)) := fun w => buildSlice_wr w _ (by simp [hLl])
 have harr : ∀ w : World, (Instr.arrayAt 119 (.slice (some ⟨b, off, none⟩) 512 cap)).run Tryz.prog w = .ok (.pointer (some ⟨b, off, none⟩)) w := fun w => run_arrayAt w 119 5 512 _ _ _ Tryz.underlying119 (by decide)
 have HLL := qh hLl
 have HL := qh hL
 have HL1 := qh hL1
 clear hL hLl hL1
 have hHeld : w1.drew.cell? ⟨p, 2, none⟩ = some wv /\ w1.drew.rangeAt b off L := ⟨es4, hrange⟩
 have HR := qh hrange
 clear hrange
 go_wp2_with fail
 refine wp_region_C (fun w' => w'.cell? ⟨p, 2, none⟩ = some wv /\ w'.rangeAt b off L) 11 (by kernel_rfl) ?_
 (refine aP (i := 0) (oi := ⟨some 30, _, _, _, _, _⟩) (v := ?_) rfl ?_ hHeld ?_; rotate_left; (focus (intro w; go_simp; first | done | with_reducible rfl)); try simp only [Act.put, zB, zC, zD])
 (refine aC [2, 3, 4, 11] (i := 1) (oi := ⟨some 31, _, _, _, _, _⟩) (v := ?_) rfl ?_ hHeld ?_; rotate_left; (focus (intro w hSw; obtain ⟨hSw1, hSw2⟩ := hSw; go_simp; first | done | with_reducible rfl)); try simp only [Act.put, zB, zC, zD])
 (refine aC [3, 4, 11] (i := 2) (oi := ⟨some 32, _, _, _, _, _⟩) (v := ?_) rfl ?_ hHeld ?_; rotate_left; (focus (intro w hSw; obtain ⟨hSw1, hSw2⟩ := hSw; go_simp; first | done | with_reducible rfl)); try simp only [Act.put, zB, zC, zD])
 (refine aC [4, 11] (i := 3) (oi := ⟨some 33, _, _, _, _, _⟩) (v := ?_) rfl ?_ hHeld ?_; rotate_left; (focus (intro w hSw; obtain ⟨hSw1, hSw2⟩ := hSw; go_simp; first | done | with_reducible rfl)); try simp only [Act.put, zB, zC, zD])
 (refine aC [11] (i := 4) (oi := ⟨some 34, _, _, _, _, _⟩) (v := ?_) rfl ?_ hHeld ?_; rotate_left; (focus (intro w hSw; obtain ⟨hSw1, hSw2⟩ := hSw; go_simp; first | done | with_reducible rfl)); try simp only [Act.put, zB, zC, zD])
 (refine aC [9, 10, 11] (i := 5) (oi := ⟨some 35, _, _, _, _, _⟩) (v := ?_) rfl ?_ hHeld ?_; rotate_left; (focus (intro w hSw; obtain ⟨hSw1, hSw2⟩ := hSw; go_simp; first | done | with_reducible rfl)); try simp only [Act.put, zB, zC, zD])
 (refine aC [7, 8, 9, 10, 11] (i := 6) (oi := ⟨some 36, _, _, _, _, _⟩) (v := ?_) rfl ?_ hHeld ?_; rotate_left; (focus (intro w hSw; obtain ⟨hSw1, hSw2⟩ := hSw; go_simp; first | done | with_reducible rfl)); try simp only [Act.put, zB, zC, zD])
 (refine aC [8, 9, 10, 11] (i := 7) (oi := ⟨some 37, _, _, _, _, _⟩) (v := ?_) rfl ?_ hHeld ?_; rotate_left; (focus (intro w hSw; obtain ⟨hSw1, hSw2⟩ := hSw; go_simp; first | done | with_reducible rfl)); try simp only [Act.put, zB, zC, zD])
 (refine wpAnyC_take [9, 10, 11] (i := 8) (oi := ⟨some 38, _, _, _, _, _⟩) (v := .agg L.toArray) rfl (by kernel_rfl) (by kernel_rfl) (by kernel_rfl) (by kernel_rfl) (fun _ _ _ h => h) (yieldsIf_load_mid (by rfl) 119 _ rfl b off rfl L _ (fun w h => h.2) Tryz.underlying119 rfl (by rw [HLL.out]; exact size_sec)) hHeld ?_; try simp only [Act.put, zB, zC, zD])
 (refine wpAnyC_take [10, 11] (i := 9) (oi := ⟨some 39, _, _, _, _, _⟩) (v := .agg (.int .i64 i :: L).toArray) rfl (by kernel_rfl) (by kernel_rfl) (by kernel_rfl) (by kernel_rfl) (fun _ _ _ h => h) (Or.inl ⟨by rfl, fun w _ => exec_build rfl (by simp [Act.eval]) (hbuild w)⟩) hHeld ?_; try simp only [Act.put, zB, zC, zD])
 refine wpAnyC_one (i := 10) (oi := ⟨some 40, _, _, _, _, _⟩) rfl (by kernel_rfl) (by decide) (fun K hK => ?_)
 rw [if_pos (by rfl)]
 refine wp_buildSlice rfl (by simp [Act.eval]) (hbs _) ?_
 refine hK.out _ _ ⟨?_, World.rangeAt_alloc hHeld.2 _⟩ ?_
 ·rw [World.cell?_alloc_lt _ _ _ (World.block_lt_of_cell? _ _ hHeld.1)]; exact hHeld.1
 clear hK K
 try simp only [Act.put, zB, zC, zD]
 have hone : Hid (∀ u ∈ (Value.int .i64 i :: L), u.oneCell' = true) := by
  intro u hu
  rcases List.mem_cons.1 hu with rfl | hu
  ·rfl
  ·exact HL1.out u hu
 have hnews : Hid (∀ j u, (Value.int .i64 i :: L)[j]? = some u -> (w1.drew.alloc (.cells (.int .i64 i :: L).toArray 121)).cell? ((⟨w1.drew.heap.size, 0, none⟩ : Addr).add j) = some u) := by
  intro j u hj
  rw [Addr.add_lit, World.cell?_alloc_at _ _ _ _ rfl]
  simpa using hj
 refine wpAnyC_c (oi := ⟨some 41, _, _, _, _, _⟩) rfl (by kernel_rfl) (fun K hK => ?_)
 rw [if_pos (by rfl)]
 refine wp_append_lies _ _ _ 77 rfl 0 121 it z 513 520 Tryz.underlying77 hit hz0 hz1 hz2 hz3 (by decide) wv wait.length (wait.flatMap D.wrCells) rfl (by have := HD1.out.row; rw [HG.out] at this; exact this.drew.alloc _) ⟨w1.drew.heap.size, 0, none⟩ 1 1 (.int .i64 i :: L) rfl (by simp [HLL.out]) hnews.out hone.out (by decide) (by unfold maxLen; omega) (by omega) (Nat.zero_le _) (w1.heap.size + 1) (by simp) ?_
 intro g cp w2 hown2 hgrow2 hat2 hlt2
 have HW := qh (write_after HD1.out _ g cp i s ⟨h1, by rw [hGnn.out]; exact h2⟩ HS3.out (by rw [HG.out, <- HL.out]; exact hown2) hgrow2 hat2)
 refine hK.out _ _ ?_
 clear hK K hown2 hgrow2 hat2 hlt2 hHeld
 try simp only [Act.put, zB, zC, zD]
 obtain ⟨k1, k2, HWD⟩ := HW.out
 have HWD := qh HWD
 clear HW
 (refine aT (i := 12) (oi := ⟨some 42, _, _, _, _, _⟩) (v := ?_) rfl ?_ ?_; rotate_left; (focus (intro w; go_simp; first | done | with_reducible rfl)); try simp only [Act.put, zB, zC, zD])
 (refine aT (i := 13) (oi := ⟨some 43, _, _, _, _, _⟩) (v := ?_) rfl ?_ ?_; rotate_left; (focus (intro w; go_simp; first | done | with_reducible rfl)); try simp only [Act.put, zB, zC, zD])
 refine wpAny_one (i := 14) (oi := ⟨none, _, _, _, _, _⟩) rfl (by kernel_rfl) (fun K hK => ?_)
 rw [if_pos (by rfl)]
 go_simp
 refine hK.out _ _ ?_
 clear hK K
 try simp only [Act.put, zB, zC, zD]
 refine wpAny_done (by kernel_rfl) ?_ _
 have hfin : Hid (Wrote w (w2.setCell ⟨p, 2, none⟩ (.slice (some ⟨g, 0, none⟩) (wait.length + 1) cp)) p m wv { G with wait := wait ++ [(i, s)] }) := by
  obtain ⟨q1, q2, q3⟩ := HWD.out
  rw [HG.out] at q1 q2
  refine ⟨_, q1, HM1.out.trans q2 (fun _ _ h => h), fun k hk => ?_⟩
  have : g = k := by simpa [Value.ownBlock] using hk
  subst this
  rcases q3 with q3 | q3
  ·exact .inl q3
  ·exact .inr (Nat.le_trans HM1.out.size q3)
 clear k1 k2 HWD
 cases dn
 ·go_wp2
  go_ret
  exact ⟨rfl, hfin.out⟩
 ·go_wp2
  go_ret
  exact ⟨rfl, hfin.out⟩
end Go.Proofs.YtnjfioikpajhlaaGreat
namespace Go.Proofs.YtnjfioikpajhlaaGreat
open Go.RowKit
namespace D
def look (l : List (Int × List UInt8)) (i : Int) : Option (List UInt8) := (l.reverse.find? (fun x => x.1 == i)).map Prod.snd
theorem look_snoc (l : List (Int × List UInt8)) (x : Int × List UInt8) (i : Int) : look (l ++ [x]) i = if x.1 = i then some x.2 else look l i := by
 unfold look
 rw [List.reverse_append, List.reverse_singleton, List.singleton_append, List.find?_cons]
 by_cases h : x.1 = i
 ·simp [h]
 ·simp [h, beq_eq_false_iff_ne.2 h]
theorem look_take (l : List (Int × List UInt8)) (k : Nat) (h : k < l.length) (i : Int) : look (l.take (k + 1)) i = if l[k].1 = i then some l[k].2 else look (l.take k) i := by
 rw [List.take_succ_eq_append_getElem h, look_snoc]
def sector (d : Dsk) (i : Int) : List UInt8 := (look d.wait i).getD ((d.safe i).getD (List.replicate 512 0))
end D
theorem wr_len {d : D.Dsk} (h : D.Ok d) : ∀ x ∈ d.wait, (D.wrCells x).length = 513 := fun x hx => by simp [D.wrCells, (h.wl x hx).1]
theorem look_len {d : D.Dsk} (h : D.Ok d) (i : Int) (s : List UInt8) (hs : D.look d.wait i = some s) : s.length = 512 := by
 unfold D.look at hs
 obtain ⟨x, hx, rfl⟩ := Option.map_eq_some_iff.1 hs
 have := List.mem_of_find?_eq_some hx
 exact (h.wl x (by simpa using this)).1
theorem sector_len {d : D.Dsk} (h : D.Ok d) (i : Int) : (D.sector d i).length = 512 := by
 unfold D.sector
 cases hl : D.look d.wait i with
 | some s => rw [Option.getD_some]; exact look_len h i s hl
 | none =>
  cases hs : d.safe i with
  | some s => rw [Option.getD_none, Option.getD_some]; exact (h.sl i s hs).1
  | none => rw [Option.getD_none, Option.getD_none]; exact List.length_replicate
theorem info_sec_parts : ∃ it z, Tryz.prog.info? 119 = some it /\ it.zero = some z /\ it.size = 512 /\ z = .agg ((List.replicate 512 (0 : UInt8)).map byteVal).toArray := by
 have hi : (Tryz.prog.info? 119).map (fun i => (i.zero, i.size)) = some (some (.agg ((List.replicate 512 (0 : UInt8)).map byteVal).toArray), 512) := by kernel_rfl
 cases hq : Tryz.prog.info? 119 with
 | none => rw [hq] at hi; cases hi
 | some it =>
  rw [hq] at hi
  simp only [Option.map_some, Option.some.injEq, Prod.mk.injEq] at hi
  exact ⟨it, _, rfl, hi.1, hi.2, rfl⟩
def Got (w w' : World) (s : List UInt8) (e : Ending) : Prop := ∃ v, e = .returned (.tuple #[v, .int .i64 0]) /\ w'.ownsRow w.heap.size 119 1 v 512 (s.map byteVal) /\ Ext w w'
theorem got_mk {w w1 : World} {L : List UInt8} (hx : Ext w w1) {g : Nat} (hg : w.heap.size <= g) (hb : w1.heap[g]? = some (.cells (L.map byteVal).toArray 119 (0, 0))) (hL : L.length = 512) :
 Got w w1 L (.returned (.tuple #[.slice (some ⟨g, 0, none⟩) 512 512, .int .i64 0])) :=
 ⟨_, rfl, ⟨by simpa using hL, .inr ⟨g, 512, _, rfl, hg, hb, Nat.le_refl _, by unfold maxLen; omega, by simpa using hL, by rw [List.take_of_length_le (by simp [hL])]⟩⟩, hx⟩
theorem disk_read_bad {w : World} {p m : Nat} {wv : Value} {d : D.Dsk} (h : DiskIn w p m wv d) (i : Int) (hbad : i < 0 ∨ d.n <= i ∨ d.down = true) :
 Calls Tryz.prog 81 #[.pointer (some ⟨p, 0, none⟩), .int .i64 i] w fun e w' => e = .returned (.tuple #[.slice none 0 0, .int .i64 (if i < 0 ∨ d.n <= i then 1 else 3)]) /\ w = w' := by
 obtain ⟨n, safe, wait, down, armed, after⟩ := d
 obtain ⟨c0, c1, c2, c3, c4, c5⟩ := h.cells
 simp only at hbad c0 c1 c2 c3 c4 c5
 by_cases h1 : i < 0 ∨ n <= i
 ·have e1 : (if i < 0 ∨ n <= i then (1 : Int) else 3) = 1 := if_pos h1
  simp only at e1 ⊢
  rw [e1]
  clear e1 hbad h
  by_cases h2 : i < 0
  ·clear h1
   go_enter Tryz.func81, Tryz.ntmps81
   go_wp2
   go_ret2
   exact ⟨rfl, rfl⟩
  ·have h3 : n <= i := by omega
   clear h1
   go_enter Tryz.func81, Tryz.ntmps81
   go_wp2
   go_ret2
   exact ⟨rfl, rfl⟩
 ·have e1 : (if i < 0 ∨ n <= i then (1 : Int) else 3) = 3 := if_neg h1
  simp only at e1 ⊢
  rw [e1]
  have h2 : 0 <= i := by omega
  have h3 : i < n := by omega
  have h4 : down = true := by rcases hbad with h | h | h <;> first | omega | exact h
  subst h4
  clear e1 hbad h h1
  go_enter Tryz.func81, Tryz.ntmps81
  go_wp2
  go_ret2
  exact ⟨rfl, rfl⟩
theorem disk_read {w : World} {p m : Nat} {wv : Value} {d : D.Dsk} (h : DiskIn w p m wv d) (i : Int) (h1 : 0 <= i) (h2 : i < d.n) (h3 : d.down = false) :
 Calls Tryz.prog 81 #[.pointer (some ⟨p, 0, none⟩), .int .i64 i] w fun e w' => Got w w' (D.sector d i) e := by
 obtain ⟨n, safe, wait, down, armed, after⟩ := d
 obtain ⟨c0, c1, c2, c3, c4, c5⟩ := h.cells
 simp only at h2 h3 c0 c1 c2 c3 c4 c5
 subst h3
 obtain ⟨it, z, hit, hz0, hz1, hz2⟩ := info_sec_parts
 have H := qh h
 have hshape := h.shape
 obtain ⟨a, cap, rfl⟩ := hshape
 have hn2 := h.ok.n2
 simp only at hn2
 have hwl : wait.length <= 9223372036854775807 := by
  rcases h.row.2 with ⟨_, h0⟩ | ⟨g, cp, cur, _, _, _, hnc, hcm, _⟩
  ·simp only at h0; omega
  ·unfold maxLen at hcm; simp only at hnc; omega
 clear h
 go_enter Tryz.func81, Tryz.ntmps81
 go_wp2
 go_loop [6] (fun kv => ∃ k : Nat, k <= wait.length /\ kv = .int .i64 ((k : Int) - 1) /\ Hid (D.look wait i = D.look (wait.take k) i)) (fun kv => (intOf kv + 1).toNat)
 case atStart => exact ⟨wait.length, Nat.le_refl _, rfl, by unfold Hid; rw [List.take_length]⟩
 case round =>
  obtain ⟨k, hk, rfl, hlk⟩ := hrel
  match k, hk, hlk with
  | 0, hk, hlk =>
   have hnone : D.look wait i = none := by rw [hlk.out]; rfl
   obtain ⟨S, hS⟩ : ∃ S, S = D.sector ⟨n, safe, wait, false, armed, after⟩ i := ⟨_, rfl⟩
   have hSl : S.length = 512 := by rw [hS]; exact sector_len H.out.ok i
   have hlook : (Instr.lookup 76 (.map (some m)) (.int .i64 i) false).run Tryz.prog w = .ok (.agg (S.map byteVal).toArray) w := by
    have h5 := H.out.map.get Tryz.underlying3 (t := 76) (e := 119) Tryz.underlying76 (z := z) (by simp [zeroValue, typeInfo, hit, hz0]) i (by omega) (by omega)
    rw [h5]
    congr 1
    rw [hS]
    unfold D.sector
    simp only [hnone, Option.getD_none]
    cases safe i with
    | none => simp only [Option.map_none, Option.getD_none]; exact hz2
    | some s => simp only [Option.map_some, Option.getD_some]; rfl
   obtain ⟨L, hL⟩ : ∃ L, L = S.map byteVal := ⟨_, rfl⟩
   rw [<- hL] at hlook
   have HLL := qh (show L.length = 512 by rw [hL, List.length_map]; exact hSl)
   have HL := qh hL
   have HL1 := qh (show ∀ u ∈ L, u.oneCell' = true by rw [hL]; exact bytes_one S)
   have HS := qh hS
   have HSL := qh hSl
   clear hL hS hSl hnone
   have hzc : Hid (z.cells.size = 512) := by
    have h6 : Hid (((List.replicate 512 (0 : UInt8)).map byteVal).length = 512) := by unfold Hid; rw [List.length_map]; exact List.length_replicate
    unfold Hid
    rw [hz2]
    show (((List.replicate 512 (0 : UInt8)).map byteVal).toArray).size = 512
    rw [List.size_toArray]; exact h6.out
   clear hz2
   go_wp2_with (first
    | ((with_reducible show wpList _ _ _ (⟨some 8, Op.alloc _, _, _, _, _⟩ :: _) _ _); refine wpl_alloc _ rfl 119 rfl it z hit hz0 ?_; intro Z hZ)
    | ((with_reducible show wpList _ _ _ (⟨none, Op.store _ _ _, _, _, _, _⟩ :: _) _ _); refine wpl_store_all _ rfl 119 _ _ rfl w.heap.size 119 Z (heap_alloc_new w _) rfl L rfl (by rw [hZ, HLL.out]; exact hzc.out) (by rw [HLL.out]; exact size_sec) HL1.out ?_; intro w2 hb2 hm2 hsz2))
   rw [HL.out] at hb2
   have hx2 : Ext w w2 := hm2.ext (Ext.of_alloc w _) (fun k e => by omega)
   go_ret2
   rw [<- HS.out]
   exact got_mk hx2 (Nat.le_refl _) hb2 HSL.out
  | k + 1, hk, hlk =>
   have e : (((k + 1 : Nat) : Int) - 1) = (k : Int) := by omega
   rw [e]
   clear e
   have hkl : k < wait.length := by omega
   obtain ⟨g, cp, heq, _, _, hcp, hcm, hrg⟩ := own_range H.out.row (wr_len H.out.ok) (by decide) k hkl
   simp only [Value.slice.injEq] at heq
   obtain ⟨rfl, _, rfl⟩ := heq
   have hr := hrg k hkl
   have hck : w.cell? ⟨g, k * 513, none⟩ = some (.int .i64 wait[k].1) := hr 0 _ rfl
   have hrL : w.rangeAt g (k * 513 + 1) (wait[k].2.map byteVal) := fun j v hj => by
    have := hr (j + 1) v (by simpa [D.wrCells] using hj)
    rw [Nat.add_assoc, Nat.add_comm 1 j]; exact this
   have hlt := D.look_take wait k hkl i
   have hsl : wait[k].2.length = 512 := (H.out.ok.wl _ (List.getElem_mem hkl)).1
   by_cases hmi : wait[k].1 = i
   ·rw [if_pos hmi] at hlt
    obtain ⟨S, hS⟩ : ∃ S, S = D.sector ⟨n, safe, wait, false, armed, after⟩ i := ⟨_, rfl⟩
    have hS2 : S = wait[k].2 := by rw [hS]; unfold D.sector; simp only [hlk.out, hlt, Option.getD_some]
    obtain ⟨L, hL⟩ : ∃ L, L = S.map byteVal := ⟨_, rfl⟩
    have HRG := qh (show w.rangeAt g (k * 513 + 1) L by rw [hL, hS2]; exact hrL)
    have HLL := qh (show L.length = 512 by rw [hL, List.length_map, hS2]; exact hsl)
    have HL := qh hL
    have HL1 := qh (show ∀ u ∈ L, u.oneCell' = true by rw [hL]; exact bytes_one S)
    have HS := qh hS
    have HSL := qh (show S.length = 512 by rw [hS2]; exact hsl)
    have hzc : Hid (z.cells.size = 512) := by
     have h6 : Hid (((List.replicate 512 (0 : UInt8)).map byteVal).length = 512) := by unfold Hid; rw [List.length_map]; exact List.length_replicate
     unfold Hid
     rw [hz2]
     show (((List.replicate 512 (0 : UInt8)).map byteVal).toArray).size = 512
     rw [List.size_toArray]; exact h6.out
    rw [hmi] at hck
    clear hL hS hS2 hsl hlt hrL hr hrg hz2 hmi
    go_wp2_with (first
     | ((with_reducible show wpList _ _ _ (⟨some 7, Op.alloc _, _, _, _, _⟩ :: _) _ _); refine wpl_alloc _ rfl 119 rfl it z hit hz0 ?_; intro Z hZ)
     | ((with_reducible show wpList _ _ _ (⟨some 52, Op.load _ _, _, _, _, _⟩ :: _) _ _); refine wpList_load_mid rfl 119 _ rfl g (k * 513 + 1) rfl L _ HRG.out Tryz.underlying119 rfl (by rw [HLL.out]; exact size_sec) ?_)
     | ((with_reducible show wpList _ _ _ (⟨none, Op.store _ _ _, _, _, _, _⟩ :: _) _ _); refine wpl_store_all _ rfl 119 _ _ rfl w.heap.size 119 Z (heap_alloc_new w _) rfl L rfl (by rw [hZ, HLL.out]; exact hzc.out) (by rw [HLL.out]; exact size_sec) HL1.out ?_; intro w2 hb2 hm2 hsz2))
    rw [HL.out] at hb2
    have hx2 : Ext w w2 := hm2.ext (Ext.of_alloc w _) (fun k e => by omega)
    go_ret2
    rw [<- HS.out]
    exact got_mk hx2 (Nat.le_refl _) hb2 HSL.out
   ·rw [if_neg hmi] at hlt
    have hne : (wait[k].1 == i) = false := beq_eq_false_iff_ne.2 hmi
    have hl2 : Hid (D.look wait i = D.look (wait.take k) i) := by unfold Hid; rw [hlk.out, hlt]
    clear hlt hsl hrL hr hrg hlk hmi
    go_wp2
    go_round
    case rel => exact ⟨k, by omega, rfl, hl2⟩
    case measure => (simp [intOf]; try omega)
end Go.Proofs.YtnjfioikpajhlaaGreat
namespace Go.Proofs.YtnjfioikpajhlaaGreat
open Go.RowKit
def D.flush (d : D.Dsk) : D.Dsk := if D.done d then { D.goes d with safe := D.over d.safe d.wait, wait := [] } else D.goes d
def D.flushE (d : D.Dsk) : Int := if D.done d then 0 else 3
theorem D.over_snoc (f : Int -> Option (List UInt8)) (l : List (Int × List UInt8)) (x : Int × List UInt8) : D.over f (l ++ [x]) = fun j => if j = x.1 then some x.2 else D.over f l j := by
 unfold D.over; rw [List.foldl_append]; rfl
theorem D.over_take (f : Int -> Option (List UInt8)) (l : List (Int × List UInt8)) (k : Nat) (h : k < l.length) : D.over f (l.take (k + 1)) = fun j => if j = l[k].1 then some l[k].2 else D.over f (l.take k) j := by
 rw [List.take_succ_eq_append_getElem h, D.over_snoc]
theorem DiskIn.put {w : World} {p m : Nat} {wv : Value} {d : D.Dsk} (h : DiskIn w p m wv d) (i : Int) (s : List UInt8) (h1 : 0 <= i) (h2 : i < d.n) (hs : s.length = 512) :
 ∃ w', (Instr.mapUpdate 76 (.map (some m)) (.int .i64 i) (.agg (s.map byteVal).toArray)).run Tryz.prog w = .ok () w' /\
  DiskIn w' p m wv { d with safe := fun j => if j = i then some s else d.safe j } /\ Mod (FP p m wv) w w' := by
 obtain ⟨a1, a2, a3⟩ := h.apart
 have n2 := h.ok.n2
 obtain ⟨w', hrun, hmap, hg⟩ := h.map.set Tryz.underlying3 (t := 76) (e := 119) Tryz.underlying76 4096 (fun k v hv => by
  obtain ⟨s', hs', _⟩ := Option.map_eq_some_iff.1 hv
  have := h.ok.sl k s' hs'
  omega) (by omega) i (by omega) (by omega) (.agg (s.map byteVal).toArray)
 have hm : Mod (fun k => k = m) w w' := Mod.grown hg (fun k e _ => by injection e with e; exact e.symm)
 refine ⟨w', hrun, ⟨blk_mod h.blk hm a1, ownsRow_mod h.row hm (fun k hk e => a3 (by rw [hk, e])), ?_, ?_⟩, hm.mono (fun k e => .inr (.inl e))⟩
 ·have e : (fun k => ((if k = i then some s else d.safe k)).map D.secVal) = (fun j => if j = i then some (Value.agg (s.map byteVal).toArray) else (d.safe j).map D.secVal) := by
   funext j; split <;> rfl
  show MapAt Tryz.prog _ w' m (fun k => ((if k = i then some s else d.safe k)).map D.secVal)
  rw [e]; exact hmap
 ·refine ⟨h.ok.n1, h.ok.n2, h.ok.wl, fun k s' hk => ?_, h.ok.a1, h.ok.a2⟩
  simp only at hk
  split at hk
  ·injection hk with hk; subst hk; subst_vars; exact ⟨hs, h1, h2⟩
  ·exact h.ok.sl k s' hk
theorem DiskIn.cleared {w : World} {p m : Nat} {wv : Value} {d : D.Dsk} (h : DiskIn w p m wv d) : DiskIn (w.setCell ⟨p, 2, none⟩ (.slice none 0 0)) p m (.slice none 0 0) { d with wait := [] } := by
 obtain ⟨a1, a2, a3⟩ := h.apart
 have hm : Mod (fun k => k = p) w (w.setCell ⟨p, 2, none⟩ (.slice none 0 0)) := Mod.setCell w _ _ rfl
 refine ⟨?_, ⟨by simp, .inl ⟨rfl, rfl⟩⟩, h.map.mod hm (fun e => a1 e.symm), ⟨h.ok.n1, h.ok.n2, fun x hx => (by cases hx), h.ok.sl, h.ok.a1, h.ok.a2⟩⟩
 rw [blk_set h.blk 2]; rfl
theorem size_wr : (Tryz.prog.info? 121).map (·.size) = some 513 := by kernel_rfl
theorem row_bound {w : World} {p m : Nat} {wv : Value} {d : D.Dsk} (h : DiskIn w p m wv d) : d.wait.length <= 9223372036854775807 := by
 rcases h.row.2 with ⟨_, h0⟩ | ⟨g, cp, cur, _, _, _, hnc, hcm, _⟩
 ·omega
 ·unfold maxLen at hcm; omega
theorem disk_flush {w : World} {p m : Nat} {wv : Value} {d : D.Dsk} (h : DiskIn w p m wv d) :
 Calls Tryz.prog 79 #[.pointer (some ⟨p, 0, none⟩)] w fun e w' => e = .returned (.int .i64 (D.flushE d)) /\ Wrote w w' p m wv (D.flush d) := by
 have HGO := qh (disk_goes h)
 have hgw : (D.goes d).wait = d.wait := by unfold D.goes; split <;> (try split) <;> rfl
 have hgs : (D.goes d).safe = d.safe := by unfold D.goes; split <;> (try split) <;> rfl
 obtain ⟨E, hE⟩ : ∃ E, E = D.flushE d := ⟨_, rfl⟩
 obtain ⟨R, hR⟩ : ∃ R, R = D.flush d := ⟨_, rfl⟩
 rw [<- hE, <- hR]
 unfold D.flushE at hE
 unfold D.flush at hR
 rw [<- hgw, <- hgs] at hR
 clear hgw hgs
 have hsh := h.shape
 clear h
 obtain ⟨it, z, hit, hz0, hz1, hz2, hz3⟩ := info_wr_parts
 generalize D.goes d = G at *
 generalize D.done d = dn at *
 cases dn
 ·rw [if_neg (by decide)] at hE hR
  subst hE hR
  go_enter Tryz.func79, Tryz.ntmps79
  go_wp2_with fail
  refine HGO.out.mono ?_
  rintro e w1 ⟨rfl, hd1, hm1⟩
  have HW := qh (show Wrote w w1 p m wv R from ⟨wv, hd1, hm1, fun k hk => .inl hk⟩)
  clear hd1 hm1
  go_wp2
  go_ret
  exact ⟨rfl, HW.out⟩
 ·rw [if_pos rfl] at hE hR
  subst hE
  have HR := qh hR
  clear hR hsh
  go_enter Tryz.func79, Tryz.ntmps79
  go_wp2_with fail
  refine HGO.out.mono ?_
  rintro e w1 ⟨rfl, hd1, hm1⟩
  have HD1 := qh hd1
  have HM1 := qh hm1
  have hsh := hd1.shape
  have hwl := row_bound hd1
  clear hd1 hm1
  obtain ⟨c0, c1, c2, c3, c4, c5⟩ := HD1.out.cells
  obtain ⟨n, safe, wait, down, armed, after⟩ := G
  simp only at hsh hwl c0 c1 c2 c3 c4 c5
  obtain ⟨a, cap, rfl⟩ := hsh
  go_wp2
  go_loopw [13] (fun kv wr => ∃ k : Nat, k <= wait.length /\ kv = .int .i64 k /\ Hid (DiskIn wr p m (.slice a wait.length cap) ⟨n, D.over safe (wait.take k), wait, down, armed, after⟩) /\ Hid (Mod (FP p m (.slice a wait.length cap)) w1 wr)) (fun kv _ => wait.length - (intOf kv).toNat)
  case atStart => exact ⟨0, Nat.zero_le _, rfl, HD1.out, Mod.refl _ _⟩
  case round =>
   obtain ⟨k, hk, rfl, hd, hm⟩ := hrel
   by_cases hlt : k < wait.length
   ·have hlti : (k : Int) < (wait.length : Int) := by omega
    obtain ⟨g, cp, heq, _, _, hcp, hcm, hrg⟩ := own_range hd.out.row (wr_len hd.out.ok) (by decide) k hlt
    simp only [Value.slice.injEq] at heq
    obtain ⟨rfl, _, rfl⟩ := heq
    have hr := hrg k hlt
    have hwk := hd.out.ok.wl _ (List.getElem_mem hlt)
    have hot := D.over_take safe wait k hlt
    simp only at hr hwk
    generalize hX : wait[k] = X at hr hwk hot
    clear hX hrg
    obtain ⟨i, s⟩ := X
    simp only at hwk hot
    obtain ⟨hw1, hw2, hw3⟩ := hwk
    obtain ⟨L, hL⟩ : ∃ L, L = s.map byteVal := ⟨_, rfl⟩
    have hCe : D.wrCells (i, s) = .int .i64 i :: L := by rw [hL]; rfl
    rw [hCe] at hr
    have hLL : L.length = 512 := by rw [hL, List.length_map]; exact hw1
    have HRG := qh hr
    have HLL := qh hLL
    have HCL := qh (show (Value.int .i64 i :: L).length = 513 by rw [List.length_cons, hLL])
    have HC1 := qh (show ∀ u ∈ (Value.int .i64 i :: L), u.oneCell' = true by
     intro u hu
     rcases List.mem_cons.1 hu with rfl | hu
     ·rfl
     ·rw [hL] at hu; exact bytes_one s u hu)
    have HOT := qh hot
    have HL := qh hL
    have HZ := qh hz3
    have HLI := qh (show 0 <= i /\ i < n /\ s.length = 512 from ⟨hw2, hw3, hw1⟩)
    clear hr hLL hot hL hCe hw1 hw2 hw3
    go_wp2_with (first
     | ((with_reducible show wpList _ _ _ (⟨some 16, Op.load _ _, _, _, _, _⟩ :: _) _ _); refine wpList_load_mid rfl 121 _ rfl g (k * 513) rfl (Value.int .i64 i :: L) _ HRG.out Tryz.underlying121 rfl (by rw [HCL.out]; exact size_wr) ?_)
     | ((with_reducible show wpList _ _ _ (⟨some 4, Op.alloc _, _, _, _, _⟩ :: _) _ _); refine wpl_alloc _ rfl 121 rfl it z hit hz0 ?_; intro Z hZ)
     | ((with_reducible show wpList _ _ _ (⟨none, Op.store _ _ _, _, _, _, _⟩ :: _) _ _); refine wpl_store_all _ rfl 121 _ _ rfl wr.heap.size 121 Z (heap_alloc_new wr _) rfl (Value.int .i64 i :: L) rfl (by rw [hZ, HCL.out]; exact HZ.out) (by rw [HCL.out]; exact size_wr) HC1.out ?_; intro w2 hb2 hm2 hsz2)
     | fail)
    have hx2 : Ext wr w2 := hm2.ext (Ext.of_alloc wr _) (fun k e => by omega)
    have hd2 := hd.out.ext hx2
    have HD2 := qh hd2
    have HM2 := qh (hm.out.trans (Mod.of_ext (F := fun _ => False) hx2) (fun _ _ h => h.elim))
    obtain ⟨e0, e1, e2, e3, e4, e5⟩ := hd2.cells
    have hHeld : w2.drew.cell? ⟨p, 1, none⟩ = some (.map (some m)) /\ w2.drew.cell? ⟨wr.heap.size, 0, none⟩ = some (.int .i64 i) /\ w2.drew.rangeAt wr.heap.size 1 L := by
     refine ⟨e1, blk_cell hb2 0, range_of_blk hb2 1 L (by simp)⟩
    obtain ⟨w3, hrun, hd3, hm3⟩ := (hd2.ext (Ext.of_drew w2)).put i s HLI.out.1 HLI.out.2.1 HLI.out.2.2
    rw [<- HL.out] at hrun
    have HD3 := qh (show DiskIn w3 p m (.slice (some ⟨g, 0, none⟩) wait.length cap) ⟨n, D.over safe (wait.take (k + 1)), wait, down, armed, after⟩ by rw [HOT.out]; exact hd3)
    have HM3 := qh ((HM2.out.trans (Mod.of_ext (F := fun _ => False) (Ext.of_drew w2)) (fun _ _ h => h.elim)).trans hm3 (fun _ _ h => h))
    clear hd2 hx2 hb2 hm2 hsz2 hd3 hm3 e0 e1 e2 e3 e4 e5
    refine wp_region_C (fun w' => w'.cell? ⟨p, 1, none⟩ = some (.map (some m)) /\ w'.cell? ⟨wr.heap.size, 0, none⟩ = some (.int .i64 i) /\ w'.rangeAt wr.heap.size 1 L) 8 (by kernel_rfl) ?_
    (refine aC [1, 2, 3, 8] (i := 0) (oi := ⟨some 17, _, _, _, _, _⟩) (v := ?_) rfl ?_ hHeld ?_; rotate_left; (focus (intro w hSw; obtain ⟨hSw1, hSw2, hSw3⟩ := hSw; go_simp; first | done | with_reducible rfl)); try simp only [Act.put, zB, zC, zD])
    (refine aC [2, 3, 8] (i := 1) (oi := ⟨some 18, _, _, _, _, _⟩) (v := ?_) rfl ?_ hHeld ?_; rotate_left; (focus (intro w hSw; obtain ⟨hSw1, hSw2, hSw3⟩ := hSw; go_simp; first | done | with_reducible rfl)); try simp only [Act.put, zB, zC, zD])
    (refine aC [3, 8] (i := 2) (oi := ⟨some 19, _, _, _, _, _⟩) (v := ?_) rfl ?_ hHeld ?_; rotate_left; (focus (intro w hSw; obtain ⟨hSw1, hSw2, hSw3⟩ := hSw; go_simp; first | done | with_reducible rfl)); try simp only [Act.put, zB, zC, zD])
    (refine aC [8] (i := 3) (oi := ⟨some 20, _, _, _, _, _⟩) (v := ?_) rfl ?_ hHeld ?_; rotate_left; (focus (intro w hSw; obtain ⟨hSw1, hSw2, hSw3⟩ := hSw; go_simp; first | done | with_reducible rfl)); try simp only [Act.put, zB, zC, zD])
    (refine aC [5, 8] (i := 4) (oi := ⟨some 21, _, _, _, _, _⟩) (v := ?_) rfl ?_ hHeld ?_; rotate_left; (focus (intro w hSw; obtain ⟨hSw1, hSw2, hSw3⟩ := hSw; go_simp; first | done | with_reducible rfl)); try simp only [Act.put, zB, zC, zD])
    (refine aC [8] (i := 5) (oi := ⟨some 22, _, _, _, _, _⟩) (v := ?_) rfl ?_ hHeld ?_; rotate_left; (focus (intro w hSw; obtain ⟨hSw1, hSw2, hSw3⟩ := hSw; go_simp; first | done | with_reducible rfl)); try simp only [Act.put, zB, zC, zD])
    (refine aC [7, 8] (i := 6) (oi := ⟨some 23, _, _, _, _, _⟩) (v := ?_) rfl ?_ hHeld ?_; rotate_left; (focus (intro w hSw; obtain ⟨hSw1, hSw2, hSw3⟩ := hSw; go_simp; first | done | with_reducible rfl)); try simp only [Act.put, zB, zC, zD])
    (refine wpAnyC_take [8] (i := 7) (oi := ⟨some 24, _, _, _, _, _⟩) (v := .agg L.toArray) rfl (by kernel_rfl) (by kernel_rfl) (by kernel_rfl) (by kernel_rfl) (fun _ _ _ h => h) (yieldsIf_load_mid (by rfl) 119 _ rfl wr.heap.size 1 rfl L _ (fun w h => h.2.2) Tryz.underlying119 rfl (by rw [HLL.out]; exact size_sec)) hHeld ?_; try simp only [Act.put, zB, zC, zD])
    refine wpAnyC_c (oi := ⟨none, _, _, _, _, _⟩) rfl (by kernel_rfl) (fun K hK => ?_)
    rw [if_pos (by rfl)]
    go_simp
    refine hK.out _ _ ?_
    clear hK K
    try simp only [Act.put, zB, zC, zD]
    refine wpAny_done (by kernel_rfl) ?_ _
    go_wp2
    go_roundw
    case rel => exact ⟨k + 1, by omega, by go_num, HD3.out, HM3.out⟩
    case measure => (simp [intOf]; try omega)
   ·have hke : k = wait.length := by omega
    subst hke
    have hdd := hd.out
    rw [List.take_length] at hdd
    have hfr := hdd.free 2
    obtain ⟨e0, e1, e2, e3, e4, e5⟩ := hdd.cells
    have HW := qh (show Wrote w (wr.setCell ⟨p, 2, none⟩ (.slice none 0 0)) p m (.slice a wait.length cap) R by
     rw [HR.out]
     exact ⟨.slice none 0 0, hdd.cleared, (HM1.out.trans hm.out (fun _ _ h => h)).trans (Mod.setCell (F := FP p m (.slice a wait.length cap)) wr _ _ (.inl rfl)) (fun _ _ h => h), fun k hk => by simp [Value.ownBlock] at hk⟩)
    clear hdd
    go_wp2
    go_ret
    exact ⟨rfl, HW.out⟩
end Go.Proofs.YtnjfioikpajhlaaGreat
namespace Go.Proofs.YtnjfioikpajhlaaGreat
open Go.RowKit
def D.kept : List (Int × List UInt8) -> List Bool -> List (Int × List UInt8)
 | x :: r, b :: s => if b then x :: D.kept r s else D.kept r s
 | _, _ => []
def D.restart (d : D.Dsk) (ks : List Bool) : D.Dsk := { d with safe := D.over d.safe (D.kept d.wait ks), wait := [], down := false, armed := false }
theorem D.kept_take : ∀ (l : List (Int × List UInt8)) (ks : List Bool) (k : Nat) (h : k < l.length), D.kept (l.take (k + 1)) ks = D.kept (l.take k) ks ++ (if ks.getD k false = true then [l[k]] else [])
 | [], _, k, h => by simp at h
 | x :: r, [], k, h => by cases k <;> simp [D.kept]
 | x :: r, b :: s, 0, h => by cases b <;> simp [D.kept]
 | x :: r, b :: s, k + 1, h => by
  have ih := D.kept_take r s k (by simpa using h)
  simp only [List.take_succ_cons, D.kept, List.getElem_cons_succ, List.getD_cons_succ]
  cases b
  ·simpa using ih
  ·simp only [if_true, List.cons_append, ih]
theorem Reads.mod_or {F : Nat -> Prop} {w w' : World} {v : Value} {cs : List Value} (h : Reads w v cs) (hm : Mod F w w') (hv : cs = [] ∨ ∀ k, v.ownBlock = some k -> ¬ F k) : Reads w' v cs := by
 rcases hv with rfl | hv
 ·obtain ⟨a, cap, h0, h1, h2, hn, h3, _⟩ := h
  exact ⟨a, cap, h0, h1, h2, hn, h3, .inl rfl⟩
 ·exact h.mod hm hv
theorem disk_restart {w : World} {p m : Nat} {wv : Value} {d : D.Dsk} (h : DiskIn w p m wv d) (kv : Value) (ks : List Bool) (hks : Reads w kv (ks.map Value.bool)) (hkb : ks = [] ∨ ∀ k, kv.ownBlock = some k -> ¬ FP p m wv k) :
 Calls Tryz.prog 11 #[.pointer (some ⟨p, 0, none⟩), kv] w fun e w' => e = .returned (.tuple #[]) /\ Wrote w w' p m wv (D.restart d ks) := by
 obtain ⟨it, z, hit, hz0, hz1, hz2, hz3⟩ := info_wr_parts
 obtain ⟨R, hR⟩ : ∃ R, R = D.restart d ks := ⟨_, rfl⟩
 rw [<- hR]
 have HR := qh hR
 clear hR
 have HD1 := qh h
 have hsh := h.shape
 have hwl := row_bound h
 obtain ⟨c0, c1, c2, c3, c4, c5⟩ := h.cells
 clear h
 obtain ⟨n, safe, wait, down, armed, after⟩ := d
 simp only at hsh hwl c0 c1 c2 c3 c4 c5
 obtain ⟨a, cap, rfl⟩ := hsh
 have HKS := qh hks
 have HKB := qh hkb
 have hksh : ∃ a' cap', kv = .slice a' ks.length cap' /\ ks.length <= maxLen := by
  obtain ⟨a', cap', e, h1, h2, _⟩ := hks
  refine ⟨a', cap', by simpa using e, ?_⟩
  simp only [List.length_map] at h1
  omega
 obtain ⟨a', cap', rfl, hkl⟩ := hksh
 unfold maxLen at hkl
 clear hks hkb
 go_enter Tryz.func11, Tryz.ntmps11
 go_wp2
 go_loopw [11] (fun kv wr => ∃ k : Nat, k <= wait.length /\ kv = .int .i64 k /\ Hid (DiskIn wr p m (.slice a wait.length cap) ⟨n, D.over safe (D.kept (wait.take k) ks), wait, down, armed, after⟩) /\ Hid (Mod (FP p m (.slice a wait.length cap)) w wr)) (fun kv _ => wait.length - (intOf kv).toNat)
 case atStart => exact ⟨0, Nat.zero_le _, rfl, HD1.out, Mod.refl _ _⟩
 case round =>
  obtain ⟨k, hk, rfl, hd, hm⟩ := hrel
  by_cases hlt : k < wait.length
  ·have hlti : (k : Int) < (wait.length : Int) := by omega
   have HKR := qh (Reads.mod_or HKS.out hm.out (HKB.out.imp (fun e => by rw [e]; rfl) id))
   obtain ⟨g, cp, heq, _, _, hcp, hcm, hrg⟩ := own_range hd.out.row (wr_len hd.out.ok) (by decide) k hlt
   simp only [Value.slice.injEq] at heq
   obtain ⟨rfl, _, rfl⟩ := heq
   have hr := hrg k hlt
   have hwk := hd.out.ok.wl _ (List.getElem_mem hlt)
   have hkt := D.kept_take wait ks k hlt
   simp only at hr hwk
   generalize hX : wait[k] = X at hr hwk hkt
   clear hX hrg
   obtain ⟨i, s⟩ := X
   simp only at hwk
   obtain ⟨hw1, hw2, hw3⟩ := hwk
   obtain ⟨L, hL⟩ : ∃ L, L = s.map byteVal := ⟨_, rfl⟩
   have hCe : D.wrCells (i, s) = .int .i64 i :: L := by rw [hL]; rfl
   rw [hCe] at hr
   have hLL : L.length = 512 := by rw [hL, List.length_map]; exact hw1
   have HRG := qh hr
   have HLL := qh hLL
   have HCL := qh (show (Value.int .i64 i :: L).length = 513 by rw [List.length_cons, hLL])
   have HC1 := qh (show ∀ u ∈ (Value.int .i64 i :: L), u.oneCell' = true by
    intro u hu
    rcases List.mem_cons.1 hu with rfl | hu
    ·rfl
    ·rw [hL] at hu; exact bytes_one s u hu)
   have HKT := qh hkt
   have HL := qh hL
   have HZ := qh hz3
   have HLI := qh (show 0 <= i /\ i < n /\ s.length = 512 from ⟨hw2, hw3, hw1⟩)
   clear hr hLL hkt hL hCe hw1 hw2 hw3
   by_cases hkk : k < ks.length
   ·have hkki : (k : Int) < (ks.length : Int) := by omega
    obtain ⟨b', off, ea, hcc⟩ : ∃ b' off, a' = some ⟨b', off, none⟩ /\ wr.cell? ⟨b', off + k, none⟩ = some (.bool ks[k]) := by
     obtain ⟨a2, cap2, e, _, _, _, _, h4⟩ := HKR.out
     simp only [Value.slice.injEq] at e
     obtain ⟨rfl, _, rfl⟩ := e
     rcases h4 with h4 | ⟨b', off, rfl, hc⟩
     ·have : ks.length = 0 := by simpa using h4
      omega
     ·exact ⟨b', off, rfl, hc k _ (by simp [hkk])⟩
    subst ea
    have hgd : ks.getD k false = ks[k] := by simp [hkk]
    rw [hgd] at HKT
    cases hb : ks[k] with
    | true =>
     rw [hb] at hcc
     have hkf : (if ks[k] = true then [(i, s)] else []) = [(i, s)] := by rw [hb]; rfl
     have HKC : Hid (∀ w2, Ext wr w2 -> w2.cell? ⟨b', off + k, none⟩ = some (.bool true)) := fun w2 hx => (Mod.of_ext (F := fun _ => False) hx).cell hcc (fun h => h)
     clear hb hgd hcc
     go_wp2_with (first
      | ((with_reducible show wpList _ _ _ (⟨some 15, Op.load _ _, _, _, _, _⟩ :: _) _ _); refine wpList_load_mid rfl 121 _ rfl g (k * 513) rfl (Value.int .i64 i :: L) _ HRG.out Tryz.underlying121 rfl (by rw [HCL.out]; exact size_wr) ?_)
      | ((with_reducible show wpList _ _ _ (⟨some 5, Op.alloc _, _, _, _, _⟩ :: _) _ _); refine wpl_alloc _ rfl 121 rfl it z hit hz0 ?_; intro Z hZ)
      | ((with_reducible show wpList _ _ _ (⟨none, Op.store _ _ _, _, _, _, _⟩ :: _) _ _); refine wpl_store_all _ rfl 121 _ _ rfl wr.heap.size 121 Z (heap_alloc_new wr _) rfl (Value.int .i64 i :: L) rfl (by rw [hZ, HCL.out]; exact HZ.out) (by rw [HCL.out]; exact size_wr) HC1.out ?_; intro w2 hb2 hm2 hsz2; have hx2 : Ext wr w2 := hm2.ext (Ext.of_alloc wr _) (fun k e => by omega); have hkc := HKC.out w2 hx2)
      | fail)
     have HM2 := qh (hm.out.trans (Mod.of_ext (F := fun _ => False) hx2) (fun _ _ h => h.elim))
     have hd2 := hd.out.ext hx2
     obtain ⟨e0, e1, e2, e3, e4, e5⟩ := hd2.cells
     have hHeld : w2.drew.cell? ⟨p, 1, none⟩ = some (.map (some m)) /\ w2.drew.cell? ⟨wr.heap.size, 0, none⟩ = some (.int .i64 i) /\ w2.drew.rangeAt wr.heap.size 1 L := by
      refine ⟨e1, blk_cell hb2 0, range_of_blk hb2 1 L (by simp)⟩
     obtain ⟨w3, hrun, hd3, hm3⟩ := (hd2.ext (Ext.of_drew w2)).put i s HLI.out.1 HLI.out.2.1 HLI.out.2.2
     rw [<- HL.out] at hrun
     have HD3 := qh (show DiskIn w3 p m (.slice (some ⟨g, 0, none⟩) wait.length cap) ⟨n, D.over safe (D.kept (wait.take (k + 1)) ks), wait, down, armed, after⟩ by rw [HKT.out, hkf, D.over_snoc]; exact hd3)
     have HM3 := qh ((HM2.out.trans (Mod.of_ext (F := fun _ => False) (Ext.of_drew w2)) (fun _ _ h => h.elim)).trans hm3 (fun _ _ h => h))
     clear hd2 hx2 hb2 hm2 hsz2 hd3 hm3 e0 e1 e2 e3 e4 e5
     refine wp_region_C (fun w' => w'.cell? ⟨p, 1, none⟩ = some (.map (some m)) /\ w'.cell? ⟨wr.heap.size, 0, none⟩ = some (.int .i64 i) /\ w'.rangeAt wr.heap.size 1 L) 8 (by kernel_rfl) ?_
     (refine aC [1, 2, 3, 8] (i := 0) (oi := ⟨some 26, _, _, _, _, _⟩) (v := ?_) rfl ?_ hHeld ?_; rotate_left; (focus (intro w hSw; obtain ⟨hSw1, hSw2, hSw3⟩ := hSw; go_simp; first | done | with_reducible rfl)); try simp only [Act.put, zB, zC, zD])
     (refine aC [2, 3, 8] (i := 1) (oi := ⟨some 27, _, _, _, _, _⟩) (v := ?_) rfl ?_ hHeld ?_; rotate_left; (focus (intro w hSw; obtain ⟨hSw1, hSw2, hSw3⟩ := hSw; go_simp; first | done | with_reducible rfl)); try simp only [Act.put, zB, zC, zD])
     (refine aC [3, 8] (i := 2) (oi := ⟨some 28, _, _, _, _, _⟩) (v := ?_) rfl ?_ hHeld ?_; rotate_left; (focus (intro w hSw; obtain ⟨hSw1, hSw2, hSw3⟩ := hSw; go_simp; first | done | with_reducible rfl)); try simp only [Act.put, zB, zC, zD])
     (refine aC [8] (i := 3) (oi := ⟨some 29, _, _, _, _, _⟩) (v := ?_) rfl ?_ hHeld ?_; rotate_left; (focus (intro w hSw; obtain ⟨hSw1, hSw2, hSw3⟩ := hSw; go_simp; first | done | with_reducible rfl)); try simp only [Act.put, zB, zC, zD])
     (refine aC [5, 8] (i := 4) (oi := ⟨some 30, _, _, _, _, _⟩) (v := ?_) rfl ?_ hHeld ?_; rotate_left; (focus (intro w hSw; obtain ⟨hSw1, hSw2, hSw3⟩ := hSw; go_simp; first | done | with_reducible rfl)); try simp only [Act.put, zB, zC, zD])
     (refine aC [8] (i := 5) (oi := ⟨some 31, _, _, _, _, _⟩) (v := ?_) rfl ?_ hHeld ?_; rotate_left; (focus (intro w hSw; obtain ⟨hSw1, hSw2, hSw3⟩ := hSw; go_simp; first | done | with_reducible rfl)); try simp only [Act.put, zB, zC, zD])
     (refine aC [7, 8] (i := 6) (oi := ⟨some 32, _, _, _, _, _⟩) (v := ?_) rfl ?_ hHeld ?_; rotate_left; (focus (intro w hSw; obtain ⟨hSw1, hSw2, hSw3⟩ := hSw; go_simp; first | done | with_reducible rfl)); try simp only [Act.put, zB, zC, zD])
     (refine wpAnyC_take [8] (i := 7) (oi := ⟨some 33, _, _, _, _, _⟩) (v := .agg L.toArray) rfl (by kernel_rfl) (by kernel_rfl) (by kernel_rfl) (by kernel_rfl) (fun _ _ _ h => h) (yieldsIf_load_mid (by rfl) 119 _ rfl wr.heap.size 1 rfl L _ (fun w h => h.2.2) Tryz.underlying119 rfl (by rw [HLL.out]; exact size_sec)) hHeld ?_; try simp only [Act.put, zB, zC, zD])
     refine wpAnyC_c (oi := ⟨none, _, _, _, _, _⟩) rfl (by kernel_rfl) (fun K hK => ?_)
     rw [if_pos (by rfl)]
     go_simp
     refine hK.out _ _ ?_
     clear hK K
     try simp only [Act.put, zB, zC, zD]
     refine wpAny_done (by kernel_rfl) ?_ _
     go_wp2
     go_roundw
     case rel => exact ⟨k + 1, by omega, by go_num, HD3.out, HM3.out⟩
     case measure => (simp [intOf]; try omega)
    | false =>
     rw [hb] at hcc
     have hkf : D.over safe (D.kept (wait.take k) ks ++ (if ks[k] = true then [(i, s)] else [])) = D.over safe (D.kept (wait.take k) ks) := by rw [hb]; simp
     have HKC : Hid (∀ w2, Ext wr w2 -> w2.cell? ⟨b', off + k, none⟩ = some (.bool false)) := fun w2 hx => (Mod.of_ext (F := fun _ => False) hx).cell hcc (fun h => h)
     clear hb hgd hcc
     go_wp2_with (first
      | ((with_reducible show wpList _ _ _ (⟨some 15, Op.load _ _, _, _, _, _⟩ :: _) _ _); refine wpList_load_mid rfl 121 _ rfl g (k * 513) rfl (Value.int .i64 i :: L) _ HRG.out Tryz.underlying121 rfl (by rw [HCL.out]; exact size_wr) ?_)
      | ((with_reducible show wpList _ _ _ (⟨some 5, Op.alloc _, _, _, _, _⟩ :: _) _ _); refine wpl_alloc _ rfl 121 rfl it z hit hz0 ?_; intro Z hZ)
      | ((with_reducible show wpList _ _ _ (⟨none, Op.store _ _ _, _, _, _, _⟩ :: _) _ _); refine wpl_store_all _ rfl 121 _ _ rfl wr.heap.size 121 Z (heap_alloc_new wr _) rfl (Value.int .i64 i :: L) rfl (by rw [hZ, HCL.out]; exact HZ.out) (by rw [HCL.out]; exact size_wr) HC1.out ?_; intro w2 hb2 hm2 hsz2; have hx2 : Ext wr w2 := hm2.ext (Ext.of_alloc wr _) (fun k e => by omega); have hkc := HKC.out w2 hx2)
      | fail)
     have HM2 := qh (hm.out.trans (Mod.of_ext (F := fun _ => False) hx2) (fun _ _ h => h.elim))
     have HD2 := qh (show DiskIn w2 p m (.slice (some ⟨g, 0, none⟩) wait.length cap) ⟨n, D.over safe (D.kept (wait.take (k + 1)) ks), wait, down, armed, after⟩ by rw [HKT.out, hkf]; exact hd.out.ext hx2)
     clear hx2 hb2 hm2 hsz2
     go_roundw
     case rel => exact ⟨k + 1, by omega, by go_num, HD2.out, HM2.out⟩
     case measure => (simp [intOf]; try omega)
   ·have hkki : (ks.length : Int) <= (k : Int) := by omega
    have hkf : D.over safe (D.kept (wait.take k) ks ++ (if ks.getD k false = true then [(i, s)] else [])) = D.over safe (D.kept (wait.take k) ks) := by
     have : ks.getD k false = false := by simp [List.getElem?_eq_none (show ks.length <= k by omega)]
     rw [this]; simp
    go_wp2_with (first
     | ((with_reducible show wpList _ _ _ (⟨some 15, Op.load _ _, _, _, _, _⟩ :: _) _ _); refine wpList_load_mid rfl 121 _ rfl g (k * 513) rfl (Value.int .i64 i :: L) _ HRG.out Tryz.underlying121 rfl (by rw [HCL.out]; exact size_wr) ?_)
     | ((with_reducible show wpList _ _ _ (⟨some 5, Op.alloc _, _, _, _, _⟩ :: _) _ _); refine wpl_alloc _ rfl 121 rfl it z hit hz0 ?_; intro Z hZ)
     | ((with_reducible show wpList _ _ _ (⟨none, Op.store _ _ _, _, _, _, _⟩ :: _) _ _); refine wpl_store_all _ rfl 121 _ _ rfl wr.heap.size 121 Z (heap_alloc_new wr _) rfl (Value.int .i64 i :: L) rfl (by rw [hZ, HCL.out]; exact HZ.out) (by rw [HCL.out]; exact size_wr) HC1.out ?_; intro w2 hb2 hm2 hsz2; have hx2 : Ext wr w2 := hm2.ext (Ext.of_alloc wr _) (fun k e => by omega))
     | fail)
    have HM2 := qh (hm.out.trans (Mod.of_ext (F := fun _ => False) hx2) (fun _ _ h => h.elim))
    have HD2 := qh (show DiskIn w2 p m (.slice (some ⟨g, 0, none⟩) wait.length cap) ⟨n, D.over safe (D.kept (wait.take (k + 1)) ks), wait, down, armed, after⟩ by rw [HKT.out, hkf]; exact hd.out.ext hx2)
    clear hx2 hb2 hm2 hsz2
    go_roundw
    case rel => exact ⟨k + 1, by omega, by go_num, HD2.out, HM2.out⟩
    case measure => (simp [intOf]; try omega)
  ·have hke : k = wait.length := by omega
   subst hke
   have hdd := hd.out
   rw [List.take_length] at hdd
   have hfr2 := hdd.free 2
   have hfr3 := hdd.free 3
   have hfr4 := hdd.free 4
   obtain ⟨e0, e1, e2, e3, e4, e5⟩ := hdd.cells
   have h1 := hdd.cleared
   have hok3 : D.Ok ⟨n, D.over safe (D.kept wait ks), [], false, armed, after⟩ := ⟨h1.ok.n1, h1.ok.n2, h1.ok.wl, h1.ok.sl, h1.ok.a1, h1.ok.a2⟩
   have hok4 : D.Ok ⟨n, D.over safe (D.kept wait ks), [], false, false, after⟩ := ⟨h1.ok.n1, h1.ok.n2, h1.ok.wl, h1.ok.sl, h1.ok.a1, h1.ok.a2⟩
   have h2 := h1.set 3 (.bool false) (d' := ⟨n, D.over safe (D.kept wait ks), [], false, armed, after⟩) rfl rfl rfl hok3
   have h3 := h2.set 4 (.bool false) (d' := ⟨n, D.over safe (D.kept wait ks), [], false, false, after⟩) rfl rfl rfl hok4
   have HW := qh (show Wrote w (((wr.setCell ⟨p, 2, none⟩ (.slice none 0 0)).setCell ⟨p, 3, none⟩ (.bool false)).setCell ⟨p, 4, none⟩ (.bool false)) p m (.slice a wait.length cap) R by
    rw [HR.out]
    exact ⟨.slice none 0 0, h3, hm.out.trans (((Mod.setCell (F := FP p m (.slice a wait.length cap)) wr _ _ (.inl rfl)).trans (Mod.setCell (F := FP p m (.slice a wait.length cap)) _ _ _ (.inl rfl)) (fun _ _ h => h)).trans (Mod.setCell (F := FP p m (.slice a wait.length cap)) _ _ _ (.inl rfl)) (fun _ _ h => h)) (fun _ _ h => h), fun k hk => by simp [Value.ownBlock] at hk⟩)
   clear hdd h1 h2 h3 hok3 hok4
   go_wp2
   go_end0
   exact ⟨rfl, HW.out⟩
end Go.Proofs.YtnjfioikpajhlaaGreat
namespace Go.Proofs.YtnjfioikpajhlaaGreat
open Go.RowKit
structure Held (w0 w : World) (X : Nat -> Prop) (p : Nat) (d : D.Dsk) : Prop where
 inn : ∃ m wv, DiskIn w p m wv d /\ ∀ k, FP p m wv k -> ¬ X k
 old : ∀ k, k < w0.heap.size -> X k
 lt : ∀ k, X k -> k < w.heap.size
 ext : Ext w0 w
def Keeps (X : Nat -> Prop) (w w' : World) : Prop := Mod (fun k => ¬ X k) w w'
theorem Keeps.less {X Y : Nat -> Prop} {w w' : World} (h : Keeps Y w w') (hXY : ∀ k, X k -> Y k) : Keeps X w w' := Mod.mono h (fun k hk hx => hk (hXY k hx))
theorem Keeps.trans {X : Nat -> Prop} {a b c : World} (h : Keeps X a b) (k : Keeps X b c) : Keeps X a c := Mod.trans h k (fun _ _ h => h)
theorem Keeps.of_ext {X : Nat -> Prop} {w w' : World} (h : Ext w w') : Keeps X w w' := Mod.of_ext h
theorem Keeps.refl (X : Nat -> Prop) (w : World) : Keeps X w w := Mod.refl _ _
theorem Keeps.bs {X : Nat -> Prop} {w w' : World} (hk : Keeps X w w') {v : Value} {l : List UInt8} (h : Bs w v l) (hv : ∀ k, v.ownBlock = some k -> X k) : Bs w' v l := Reads.mod h hk (fun k e hx => hx (hv k e))
theorem Keeps.reads {X : Nat -> Prop} {w w' : World} (hk : Keeps X w w') {v : Value} {l : List Value} (h : Reads w v l) (hv : ∀ k, v.ownBlock = some k -> X k) : Reads w' v l := Reads.mod h hk (fun k e hx => hx (hv k e))
theorem Keeps.own {X : Nat -> Prop} {w w' : World} (hk : Keeps X w w') {base : Nat} {e : TypeId} {size : Nat} {v : Value} {n : Nat} {xs : List Value} (h : w.ownsRow base e size v n xs) (hv : ∀ k, v.ownBlock = some k -> X k) : w'.ownsRow base e size v n xs := ownsRow_mod h hk (fun k e hx => hx (hv k e))
theorem Keeps.cell {X : Nat -> Prop} {w w' : World} (hk : Keeps X w w') {p : Addr} {v : Value} (h : w.cell? p = some v) (hp : X p.block) : w'.cell? p = some v := Mod.cell hk h (fun hx => hx hp)
section
variable {w0 w w1 : World} {X : Nat -> Prop} {p : Nat} {d : D.Dsk}
theorem Held.toExt (h : Held w0 w X p d) : Ext w0 w := h.ext
theorem Held.okd (h : Held w0 w X p d) : D.Ok d := let ⟨_, _, hd, _⟩ := h.inn; hd.ok
theorem Held.after_ext (h : Held w0 w X p d) (hx : Ext w w1) : Held w0 w1 X p d :=
 let ⟨m, wv, hd, hF⟩ := h.inn
 ⟨⟨m, wv, hd.ext hx, hF⟩, h.old, fun k hk => Nat.lt_of_lt_of_le (h.lt k hk) hx.size, h.ext.trans hx⟩
def New (X : Nat -> Prop) (w w1 : World) : Nat -> Prop := fun k => X k ∨ (w.heap.size <= k /\ k < w1.heap.size)
theorem Held.all (h : Held w0 w X p d) (hx : Ext w w1) : Held w0 w1 (New X w w1) p d := by
 obtain ⟨m, wv, hd, hF⟩ := h.inn
 refine ⟨⟨m, wv, hd.ext hx, fun k hk => ?_⟩, fun k hk => .inl (h.old k hk), fun k hk => ?_, h.ext.trans hx⟩
 ·rintro (hX | ⟨h1, _⟩)
  ·exact hF k hk hX
  ·have := hd.lt k hk; omega
 ·rcases hk with hk | ⟨_, hk⟩
  ·exact Nat.lt_of_lt_of_le (h.lt k hk) hx.size
  ·exact hk
theorem Held.less {Y : Nat -> Prop} (h : Held w0 w Y p d) (hXY : ∀ k, X k -> Y k) (ho : ∀ k, k < w0.heap.size -> X k) : Held w0 w X p d :=
 let ⟨m, wv, hd, hF⟩ := h.inn
 ⟨⟨m, wv, hd, fun k hk hx => hF k hk (hXY k hx)⟩, ho, fun k hk => h.lt k (hXY k hk), h.ext⟩
def Step (w0 w w' : World) (X : Nat -> Prop) (p : Nat) (d : D.Dsk) : Prop := Held w0 w' X p d /\ Keeps X w w'
theorem Held.wrote (h : Held w0 w X p d) {m : Nat} {wv : Value} (hF : ∀ k, FP p m wv k -> ¬ X k) {w' : World} {d' : D.Dsk} (hw : Wrote w w' p m wv d') : Step w0 w w' X p d' := by
 obtain ⟨wv', hd', hm, hwv⟩ := hw
 refine ⟨⟨⟨m, wv', hd', fun k hk hX => ?_⟩, h.old, fun k hk => Nat.lt_of_lt_of_le (h.lt k hk) hm.size, ?_⟩, hm.mono hF⟩
 ·rcases hk with hk | hk | hk
  ·exact hF k (.inl hk) hX
  ·exact hF k (.inr (.inl hk)) hX
  ·rcases hwv k hk with h2 | h2
   ·exact hF k (.inr (.inr h2)) hX
   ·have := h.lt k hX; omega
 ·refine Mod.ext h.ext hm (fun k hk => ?_)
  rcases Nat.lt_or_ge k w0.heap.size with h2 | h2
  ·exact absurd (h.old k h2) (hF k hk)
  ·exact h2
theorem Step.less {Y : Nat -> Prop} {w' : World} (h : Step w0 w w' Y p d) (hXY : ∀ k, X k -> Y k) (ho : ∀ k, k < w0.heap.size -> X k) : Step w0 w w' X p d := ⟨h.1.less hXY ho, Keeps.less h.2 hXY⟩
theorem held_new (n : Int) (w : World) (h1 : 1 <= n) (h2 : n <= 4096) :
 Calls Tryz.prog 5 #[.int .i64 n] w fun e w' => e = .returned (.tuple #[.pointer (some ⟨w.heap.size + 1, 0, none⟩), .int .i64 0]) /\ Held w w' (fun k => k < w.heap.size) (w.heap.size + 1) (D.fresh n) := by
 refine (disk_new n w h1 h2).mono ?_
 rintro e w1 ⟨rfl, hd, hx⟩
 refine ⟨rfl, ⟨_, _, hd, fun k hk => ?_⟩, fun k hk => hk, fun k hk => Nat.lt_of_lt_of_le hk hx.size, hx⟩
 rcases hk with rfl | rfl | hk
 ·omega
 ·omega
 ·simp [Value.ownBlock] at hk
theorem held_size (h : Held w0 w X p d) : Calls Tryz.prog 26 #[.pointer (some ⟨p, 0, none⟩)] w fun e w' => e = .returned (.int .i64 d.n) /\ w = w' := let ⟨_, _, hd, _⟩ := h.inn; disk_size hd
theorem held_down (h : Held w0 w X p d) : Calls Tryz.prog 52 #[.pointer (some ⟨p, 0, none⟩)] w fun e w' => e = .returned (.bool d.down) /\ w = w' := let ⟨_, _, hd, _⟩ := h.inn; disk_down hd
theorem held_waiting (h : Held w0 w X p d) : Calls Tryz.prog 53 #[.pointer (some ⟨p, 0, none⟩)] w fun e w' => e = .returned (.int .i64 (d.wait.length : Int)) /\ w = w' := let ⟨_, _, hd, _⟩ := h.inn; disk_waiting hd
def D.cut (d : D.Dsk) : D.Dsk := { d with down := true, armed := false }
theorem held_fuse (h : Held w0 w X p d) (a : Int) (ha : a <= 9223372036854775807) :
 Calls Tryz.prog 15 #[.pointer (some ⟨p, 0, none⟩), .int .i64 a] w fun e w' => e = .returned (.int .i64 (D.fuseE d a)) /\ Step w0 w w' X p (D.fuse d a) := by
 obtain ⟨m, wv, hd, hF⟩ := h.inn
 refine (disk_fuse hd a ha).mono ?_
 rintro e w1 ⟨rfl, h1, h2⟩
 exact ⟨rfl, h.wrote hF ⟨wv, h1, h2, fun k hk => .inl hk⟩⟩
theorem held_flush (h : Held w0 w X p d) : Calls Tryz.prog 79 #[.pointer (some ⟨p, 0, none⟩)] w fun e w' => e = .returned (.int .i64 (D.flushE d)) /\ Step w0 w w' X p (D.flush d) := by
 obtain ⟨m, wv, hd, hF⟩ := h.inn
 refine (disk_flush hd).mono ?_
 rintro e w1 ⟨rfl, h1⟩
 exact ⟨rfl, h.wrote hF h1⟩
theorem held_restart_X (h : Held w0 w X p d) (kv : Value) (ks : List Bool) (hks : Reads w kv (ks.map Value.bool)) (hX : ks = [] ∨ ∀ k, kv.ownBlock = some k -> X k) :
 Calls Tryz.prog 11 #[.pointer (some ⟨p, 0, none⟩), kv] w fun e w' => e = .returned (.tuple #[]) /\ Step w0 w w' X p (D.restart d ks) := by
 obtain ⟨m, wv, hd, hF⟩ := h.inn
 refine (disk_restart hd kv ks hks (hX.imp id (fun hX k hk hf => hF k hf (hX k hk)))).mono ?_
 rintro e w1 ⟨rfl, h1⟩
 exact ⟨rfl, h.wrote hF h1⟩
theorem held_restart (h : Held w0 w X p d) (hx : Ext w w1) (kv : Value) (ks : List Bool) (hks : Reads w1 kv (ks.map Value.bool)) (hX : ks = [] ∨ ∀ k, kv.ownBlock = some k -> X k ∨ (w.heap.size <= k /\ k < w1.heap.size)) :
 Calls Tryz.prog 11 #[.pointer (some ⟨p, 0, none⟩), kv] w1 fun e w' => e = .returned (.tuple #[]) /\ Step w0 w1 w' X p (D.restart d ks) :=
 (held_restart_X (h.all hx) kv ks hks hX).mono (fun _ _ hh => ⟨hh.1, hh.2.less (fun _ hk => .inl hk) h.old⟩)
theorem D.write_not {d : D.Dsk} {i : Int} {s : List UInt8} (h : ¬ (i < 0 ∨ d.n <= i ∨ s.length ≠ 512 ∨ d.down = true)) : D.write d i s = { D.goes d with wait := d.wait ++ [(i, s)] } /\ D.writeE d i s = if D.done d then 0 else 3 := by
 have h1 : ¬ (i < 0 ∨ d.n <= i) := fun h' => h (by rcases h' with h' | h' <;> simp [h'])
 have h2 : ¬ s.length ≠ 512 := fun h' => h (by simp [h'])
 have h3 : ¬ d.down = true := fun h' => h (by simp [h'])
 unfold D.write D.writeE
 rw [if_neg h1, if_neg h2, if_neg h3, if_neg h1, if_neg h2, if_neg h3]
 exact ⟨rfl, rfl⟩
theorem held_write_X (h : Held w0 w X p d) (i : Int) (v : Value) (s : List UInt8) (hs : Bs w v s) (hX : ∀ k, v.ownBlock = some k -> X k) (hw : d.wait.length <= 1073741824) :
 Calls Tryz.prog 102 #[.pointer (some ⟨p, 0, none⟩), .int .i64 i, v] w fun e w' => e = .returned (.int .i64 (D.writeE d i s)) /\ Step w0 w w' X p (D.write d i s) := by
 obtain ⟨m, wv, hd, hF⟩ := h.inn
 by_cases hbad : i < 0 ∨ d.n <= i ∨ s.length ≠ 512 ∨ d.down = true
 ·refine (disk_write_bad hd i v s hs hbad).mono ?_
  rintro e w1 ⟨rfl, h1, rfl⟩
  rw [h1]
  exact ⟨rfl, h, Keeps.refl _ _⟩
 ·obtain ⟨e1, e2⟩ := D.write_not hbad
  have hl : s.length = 512 := by rcases Nat.decEq s.length 512 with h2 | h2; exact absurd (.inr (.inr (.inl h2))) hbad; exact h2
  rcases hs.open with ⟨a, cap, rfl, rfl, _⟩ | ⟨b, off, cap, rfl, hp, hcap, _, _, hc⟩
  ·simp at hl
  ·rw [e1, e2]
   refine (disk_write_ok hd i b off cap s hcap hc (fun hb => hF b hb (hX b rfl)) (by omega) (by omega) hl (by cases hdn : d.down; rfl; exact absurd (.inr (.inr (.inr hdn))) hbad) hw).mono ?_
   rintro e w1 ⟨rfl, h1⟩
   exact ⟨rfl, h.wrote hF h1⟩
theorem held_write (h : Held w0 w X p d) (hx : Ext w w1) (i : Int) (v : Value) (s : List UInt8) (hs : Bs w1 v s) (hX : ∀ k, v.ownBlock = some k -> X k ∨ (w.heap.size <= k /\ k < w1.heap.size)) (hw : d.wait.length <= 1073741824) :
 Calls Tryz.prog 102 #[.pointer (some ⟨p, 0, none⟩), .int .i64 i, v] w1 fun e w' => e = .returned (.int .i64 (D.writeE d i s)) /\ Step w0 w1 w' X p (D.write d i s) :=
 (held_write_X (h.all hx) i v s hs hX hw).mono (fun _ _ hh => ⟨hh.1, hh.2.less (fun _ hk => .inl hk) h.old⟩)
def D.readE (d : D.Dsk) (i : Int) : Int := if i < 0 ∨ d.n <= i then 1 else if d.down then 3 else 0
def D.readB (d : D.Dsk) (i : Int) : List UInt8 := if i < 0 ∨ d.n <= i then [] else if d.down then [] else D.sector d i
def Red (w w' : World) (d : D.Dsk) (i : Int) (e : Ending) : Prop := ∃ v, e = .returned (.tuple #[v, .int .i64 (D.readE d i)]) /\ w'.ownsRow w.heap.size 119 1 v (D.readB d i).length ((D.readB d i).map byteVal) /\ Ext w w'
theorem held_read (h : Held w0 w X p d) (i : Int) : Calls Tryz.prog 81 #[.pointer (some ⟨p, 0, none⟩), .int .i64 i] w fun e w' => Red w w' d i e := by
 obtain ⟨m, wv, hd, hF⟩ := h.inn
 by_cases h1 : i < 0 ∨ d.n <= i
 ·refine (disk_read_bad hd i (by omega)).mono ?_
  rintro e w1 ⟨rfl, rfl⟩
  refine ⟨.slice none 0 0, ?_, ?_, Ext.refl _⟩
  ·unfold D.readE; rw [if_pos h1, if_pos h1]
  ·unfold D.readB; rw [if_pos h1]; exact World.ownsRow_nil _ _ _ _
 ·by_cases h2 : d.down = true
  ·refine (disk_read_bad hd i (.inr (.inr h2))).mono ?_
   rintro e w1 ⟨rfl, rfl⟩
   refine ⟨.slice none 0 0, ?_, ?_, Ext.refl _⟩
   ·unfold D.readE; rw [if_neg h1, if_neg h1, if_pos h2]
   ·unfold D.readB; rw [if_neg h1, if_pos h2]; exact World.ownsRow_nil _ _ _ _
  ·refine (disk_read hd i (by omega) (by omega) (by simpa using h2)).mono ?_
   rintro e w1 ⟨v, rfl, ho, hx⟩
   refine ⟨v, ?_, ?_, hx⟩
   ·unfold D.readE; rw [if_neg h1, if_neg h2]
   ·unfold D.readB; rw [if_neg h1, if_neg h2, sector_len hd.ok]; exact ho
end
end Go.Proofs.YtnjfioikpajhlaaGreat
namespace Go.Proofs.YtnjfioikpajhlaaGreat
open Go.RowKit
section
variable {P : Program} {ops : Array Oper} {rest : List Oper} {o : Oper} {a : Act} {Q : Exit -> Act -> World -> Prop}
theorem wpl_append_row (w : World) (hgd : o.guard = none) (s x : Operand) (t : TypeId)
 (ho : o.op = .call { callee := .builtin .append, args := #[s, x], argTypes := #[t, t] })
 (base : Nat) (e : TypeId) (i : TypeInfo) (z : Value) (size bytes : Nat) (ht : P.underlying t = some (.slice e)) (hi : P.info? e = some i) (hz : i.zero = some z)
 (hsize : i.size = size) (hby : i.bytes = bytes) (hzs : z.cells.size = size) (hsz : 0 < size)
 (v : Value) (n : Nat) (xs : List Value) (hs : a.eval s = v) (hown : w.ownsRow base e size v n xs)
 (y : Value) (m : Nat) (ys : List Value) (base2 : Nat) (hx : a.eval x = y) (hr : w.ownsRow base2 e size y m ys) (h1 : ∀ u ∈ ys, u.oneCell' = true)
 (h63 : n + m <= maxLen) (hbytes : (n + m) * bytes <= 140737488355328) (hbase : base <= w.heap.size)
 (h : ∀ v' w', w'.ownsRow base e size v' (n + m) (xs ++ ys) -> w.grownBy w' v.ownBlock -> wpList P ops Q rest (a.put o.dst v') w') : wpList P ops Q (o :: rest) a w := by
 obtain ⟨hl, hr2⟩ := hr
 rcases hr2 with ⟨rfl, rfl⟩ | ⟨g, cap, cur, rfl, _, hh, hnc, hcm, hcs, htk⟩
 ·obtain rfl : ys = [] := List.eq_nil_of_length_eq_zero (by omega)
  refine wpList_append_own_none hgd s x t ho base e i size ht hi v n xs hs hown hx (h v w (by simpa using hown) (World.grownBy.refl _ _))
 ·refine wpList_append_own w hgd s x t ho base e i z size bytes ht hi hz hsize hby hzs hsz v n xs hs hown ⟨g, 0, none⟩ m cap ys hx hl ?_ h1 h63 hbytes hbase (fun v' w' a b _ => h v' w' a b)
  intro j u hj
  rw [Addr.add_lit, cell_of_row w g _ cur e (0, 0) hh]
  rw [<- htk, List.getElem?_take] at hj
  split at hj
  ·simpa using hj
  ·cases hj
end
end Go.Proofs.YtnjfioikpajhlaaGreat
