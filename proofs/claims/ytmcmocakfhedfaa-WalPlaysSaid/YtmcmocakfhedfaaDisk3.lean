/- disk.Write. -/
import Derived.Test.YtmcmocakfhedfaaDisk
import Derived.Test.YtmcmocakfhedfaaDisk2
import Derived.Test.YtmcmocakfhedfaaRegion
import Derived.Test.YtmcmocakfhedfaaFill
import Derived.Deep.AppendLies
namespace Go.Proofs.Ytmcmocakfhedfaa
open Go.RowKit

/-- Write, by the document. -/
def D.write (d : D.Dsk) (i : Int) (s : List UInt8) : D.Dsk :=
  if i < 0 ∨ d.n ≤ i then d else if s.length ≠ 512 then d else if d.down then d else { D.goes d with wait := d.wait ++ [(i, s)] }
def D.writeE (d : D.Dsk) (i : Int) (s : List UInt8) : Int :=
  if i < 0 ∨ d.n ≤ i then 1 else if s.length ≠ 512 then 2 else if d.down then 3 else if D.done d then 0 else 3

theorem info_wr : (Try.prog.info? 100).map (fun i => (i.zero.map (·.cells.size), i.size, i.bytes)) = some (some 513, 513, 520) := by kernel_rfl
theorem info_wr_parts : ∃ it z, Try.prog.info? 100 = some it ∧ it.zero = some z ∧ it.size = 513 ∧ it.bytes = 520 ∧ z.cells.size = 513 := by
  have hi := info_wr
  cases hq : Try.prog.info? 100 with
  | none => rw [hq] at hi; cases hi
  | some it =>
    rw [hq] at hi
    simp only [Option.map_some, Option.some.injEq, Prod.mk.injEq] at hi
    cases hz : it.zero with
    | none => rw [hz] at hi; simp at hi
    | some z =>
      rw [hz] at hi
      simp only [Option.map_some, Option.some.injEq] at hi
      exact ⟨it, z, rfl, hz, hi.2.1, hi.2.2, hi.1⟩
theorem places_wr : ∀ fields, Try.prog.underlying 100 = some (.struct fields) → fields.toList.mapM (fun f => (Try.prog.info? f.type).map fun i => (f.offset, i.size)) = some [(0, 1), (1, 512)] := by
  intro fields h
  rw [Try.underlying100] at h
  obtain rfl := Option.some.inj h |> TypeDesc.struct.inj
  kernel_rfl
theorem size_sec : (Try.prog.info? 98).map (·.size) = some 512 := by kernel_rfl
theorem fields_wr : ∃ fields, Try.prog.underlying 100 = some (.struct fields) := ⟨_, Try.underlying100⟩

theorem built_wr (i : Int) (L : List Value) (hL : L.length = 512) : Try.prog.built 100 [(0, .int .i64 i), (1, .agg L.toArray)] = some (.int .i64 i :: L).toArray := by
  obtain ⟨fields, hf⟩ := fields_wr
  have hi := info_wr
  cases hq : Try.prog.info? 100 with
  | none => rw [hq] at hi; cases hi
  | some it =>
    rw [hq] at hi
    simp only [Option.map_some, Option.some.injEq, Prod.mk.injEq] at hi
    cases hz : it.zero with
    | none => rw [hz] at hi; simp at hi
    | some z =>
      rw [hz] at hi
      simp only [Option.map_some, Option.some.injEq] at hi
      exact built_two 100 fields it z 512 hf hq hz hi.1 (places_wr fields hf) (.int .i64 i) rfl L hL
theorem buildSlice_wr (w : World) (cs : List Value) (hc : cs.length = 513) : (Instr.buildSlice 94 1 #[(0, .agg cs.toArray)]).run Try.prog w = .ok (.slice (some ⟨w.heap.size, 0, none⟩) 1 1) (w.alloc (.cells cs.toArray 100)) := by
  have hi := info_wr
  cases hq : Try.prog.info? 100 with
  | none => rw [hq] at hi; cases hi
  | some it =>
    rw [hq] at hi
    simp only [Option.map_some, Option.some.injEq, Prod.mk.injEq] at hi
    cases hz : it.zero with
    | none => rw [hz] at hi; simp at hi
    | some z =>
      rw [hz] at hi
      simp only [Option.map_some, Option.some.injEq] at hi
      exact run_buildSlice_one w 94 100 it z (.agg cs.toArray) Try.underlying94 hq hz (by omega) (by omega) (by omega) (by show cs.toArray.size = _; simp; omega)

set_option maxRecDepth 100000 in
set_option maxHeartbeats 800000 in
theorem disk_write_bad {w : World} {p m : Nat} {wv : Value} {d : D.Dsk} (h : DiskIn w p m wv d) (i : Int) (v : Value) (s : List UInt8) (hs : Bs w v s)
    (hbad : i < 0 ∨ d.n ≤ i ∨ s.length ≠ 512 ∨ d.down = true) :
    Calls Try.prog 25 #[.pointer (some ⟨p, 0, none⟩), .int .i64 i, v] w fun e w' => e = .returned (.int .i64 (D.writeE d i s)) ∧ D.write d i s = d ∧ w = w' := by
  obtain ⟨n, safe, wait, down, armed, after⟩ := d
  obtain ⟨c0, c1, c2, c3, c4, c5⟩ := h.cells
  obtain ⟨a, cap, rfl⟩ := hs.shape
  simp only at hbad
  by_cases h1 : i < 0 ∨ n ≤ i
  · have e1 : Hid (D.write ⟨n, safe, wait, down, armed, after⟩ i s = ⟨n, safe, wait, down, armed, after⟩) := by unfold Hid D.write; rw [if_pos h1]
    have e2 : Hid (D.writeE ⟨n, safe, wait, down, armed, after⟩ i s = 1) := by unfold Hid D.writeE; rw [if_pos h1]
    rw [e1.out, e2.out]
    clear hbad h e1 e2 hs
    by_cases h2 : i < 0
    · clear h1
      go_enter Try.func25, Try.ntmps25
      go_wp2
      go_ret
      exact ⟨rfl, rfl⟩
    · have h3 : n ≤ i := by omega
      clear h1
      go_enter Try.func25, Try.ntmps25
      go_wp2
      go_ret
      exact ⟨rfl, rfl⟩
  · have h2 : 0 ≤ i := by omega
    have h3 : i < n := by omega
    by_cases h4 : s.length = 512
    · have hdn : down = true := by rcases hbad with h | h | h | h <;> first | omega | exact h
      subst hdn
      have e1 : Hid (D.write ⟨n, safe, wait, true, armed, after⟩ i s = ⟨n, safe, wait, true, armed, after⟩) := by unfold Hid D.write; rw [if_neg h1, if_neg (by simpa using h4)]; rfl
      have e2 : Hid (D.writeE ⟨n, safe, wait, true, armed, after⟩ i s = 3) := by unfold Hid D.writeE; rw [if_neg h1, if_neg (by simpa using h4)]; rfl
      rw [e1.out, e2.out]
      have hl : ((s.length : Int) != 512) = false := by simp; omega
      clear hbad h e1 e2 hs h1 h4
      go_enter Try.func25, Try.ntmps25
      go_wp2
      go_ret
      exact ⟨rfl, rfl⟩
    · have e1 : Hid (D.write ⟨n, safe, wait, down, armed, after⟩ i s = ⟨n, safe, wait, down, armed, after⟩) := by unfold Hid D.write; rw [if_neg h1, if_pos h4]
      have e2 : Hid (D.writeE ⟨n, safe, wait, down, armed, after⟩ i s = 2) := by unfold Hid D.writeE; rw [if_neg h1, if_pos h4]
      rw [e1.out, e2.out]
      have hl : ((s.length : Int) != 512) = true := by rw [bne_iff_ne]; omega
      clear hbad h e1 e2 hs h1 h4
      go_enter Try.func25, Try.ntmps25
      go_wp2
      go_ret
      exact ⟨rfl, rfl⟩

/-- The disk behind a call that may give it another row of writes. -/
def Wrote (w w' : World) (p m : Nat) (wv : Value) (d : D.Dsk) : Prop := ∃ wv', DiskIn w' p m wv' d ∧ Mod (FP p m wv) w w' ∧ (∀ k, wv'.ownBlock = some k → wv.ownBlock = some k ∨ w.heap.size ≤ k)

/-- What lies there behind the append and the store. -/
theorem write_after {w1 w2 : World} {p m : Nat} {wv : Value} {G : D.Dsk} (h : DiskIn w1 p m wv G) (o : Obj) (g cap : Nat) (i : Int) (s : List UInt8) (hi : 0 ≤ i ∧ i < G.n) (hs : s.length = 512)
    (hown : w2.ownsRow 0 100 513 (.slice (some ⟨g, 0, none⟩) (G.wait.length + 1) cap) (G.wait.length + 1) (G.wait.flatMap D.wrCells ++ (.int .i64 i :: s.map byteVal)))
    (hg : (w1.drew.alloc o).grownBy w2 wv.ownBlock) (hat : wv.ownBlock = some g ∨ g = w1.heap.size + 1) :
    w2.cell? ⟨p, 2, none⟩ = some wv ∧ w2.frozen? ⟨p, 2, none⟩ = false ∧
    DiskIn (w2.setCell ⟨p, 2, none⟩ (.slice (some ⟨g, 0, none⟩) (G.wait.length + 1) cap)) p m (.slice (some ⟨g, 0, none⟩) (G.wait.length + 1) cap) { G with wait := G.wait ++ [(i, s)] } ∧
    Mod (FP p m wv) w1 (w2.setCell ⟨p, 2, none⟩ (.slice (some ⟨g, 0, none⟩) (G.wait.length + 1) cap)) ∧ (wv.ownBlock = some g ∨ w1.heap.size ≤ g) := by
  obtain ⟨a1, a2, a3⟩ := h.apart
  have hx : Ext w1 (w1.drew.alloc o) := (Ext.of_drew w1).alloc o
  have hm : Mod (fun k => wv.ownBlock = some k) (w1.drew.alloc o) w2 := Mod.grown hg (fun k e _ => e)
  have hb2 : w2.heap[p]? = some (.cells [.int .i64 G.n, .map (some m), wv, .bool G.down, .bool G.armed, .int .i64 G.after].toArray 96 (0, 0)) :=
    blk_mod (blk_mod h.blk (F := fun _ => False) (Mod.of_ext hx) (fun h => h)) hm a2
  have hgp : g ≠ p := by
    have hp := blk_lt h.blk
    rintro rfl
    rcases hat with e | e
    · exact a2 e
    · omega
  refine ⟨blk_cell hb2 2, blk_free hb2 2, ⟨?_, ?_, ?_, ?_⟩, ?_, ?_⟩
  · rw [blk_set hb2 2]; rfl
  · have h2 := ownsRow_mod hown (Mod.setCell (F := fun k => k = p) w2 ⟨p, 2, none⟩ (.slice (some ⟨g, 0, none⟩) (G.wait.length + 1) cap) rfl) (fun k hk e => hgp (by
      have : g = k := by simpa [Value.ownBlock] using hk
      rw [this, e]))
    have e1 : (G.wait ++ [(i, s)]).length = G.wait.length + 1 := by simp
    have e2 : (G.wait ++ [(i, s)]).flatMap D.wrCells = G.wait.flatMap D.wrCells ++ (.int .i64 i :: s.map byteVal) := by simp [D.wrCells]
    show World.ownsRow _ 0 _ 513 _ (G.wait ++ [(i, s)]).length ((G.wait ++ [(i, s)]).flatMap D.wrCells)
    rw [e1, e2]; exact h2
  · exact ((h.map.mod (F := fun _ => False) (Mod.of_ext hx) (fun h => h)).mod hm a3).mod (Mod.setCell (F := fun k => k = p) w2 _ _ rfl) (fun e => a1 e.symm)
  · refine ⟨h.ok.n1, h.ok.n2, fun x hx => ?_, h.ok.sl, h.ok.a1, h.ok.a2⟩
    rcases List.mem_append.1 hx with hx | hx
    · exact h.ok.wl x hx
    · obtain rfl := List.mem_singleton.1 hx
      exact ⟨hs, hi.1, hi.2⟩
  · exact ((Mod.of_ext hx).trans (hm.mono (fun k hk => .inr (.inr hk))) (fun _ _ h => h)).trans (Mod.setCell (F := FP p m wv) w2 ⟨p, 2, none⟩ _ (.inl rfl)) (fun _ _ h => h)
  · rcases hat with e | e
    · exact .inl e
    · exact .inr (by omega)

set_option maxRecDepth 100000 in
set_option maxHeartbeats 800000 in
theorem disk_write_ok {w : World} {p m : Nat} {wv : Value} {d : D.Dsk} (h : DiskIn w p m wv d) (i : Int) (b off cap : Nat) (s : List UInt8) (hcap : s.length ≤ cap)
    (hs : ∀ j (h : j < s.length), w.cell? ⟨b, off + j, none⟩ = some (.int .u8 (s[j].toNat : Int))) (hbF : ¬ FP p m wv b)
    (h1 : 0 ≤ i) (h2 : i < d.n) (h3 : s.length = 512) (h4 : d.down = false) (hw : d.wait.length ≤ 1073741824) :
    Calls Try.prog 25 #[.pointer (some ⟨p, 0, none⟩), .int .i64 i, .slice (some ⟨b, off, none⟩) s.length cap] w fun e w' =>
      e = .returned (.int .i64 (if D.done d then 0 else 3)) ∧ Wrote w w' p m wv { D.goes d with wait := d.wait ++ [(i, s)] } := by
  obtain ⟨n, safe, wait, down, armed, after⟩ := d
  simp only at h2 h4 hw
  subst h4
  obtain ⟨c0, c1, c2, c3, c4, c5⟩ := h.cells
  simp only at c0 c1 c2 c3 c4 c5
  have H := Lib.hid h
  have HS := Lib.hid hs
  clear hs h
  have hl : ((s.length : Int) != 512) = false := by simp; omega
  have hsc : (512 : Int) ≤ (s.length : Int) := by omega
  have hgw : (D.goes ⟨n, safe, wait, false, armed, after⟩).wait = wait := by unfold D.goes; simp only [Bool.false_eq_true, if_false]; split <;> rfl
  have hGn : (D.goes ⟨n, safe, wait, false, armed, after⟩).n = n := by unfold D.goes; simp only [Bool.false_eq_true, if_false]; split <;> rfl
  have HS3 := Lib.hid h3
  obtain ⟨it, z, hit, hz0, hz1, hz2, hz3⟩ := info_wr_parts
  have HGO := Lib.hid (disk_goes H.out)
  generalize D.goes ⟨n, safe, wait, false, armed, after⟩ = G at *
  generalize D.done ⟨n, safe, wait, false, armed, after⟩ = dn at *
  have hGnn := Lib.hid hGn
  clear hGn
  have HG := Lib.hid hgw
  clear hgw
  go_enter Try.func25, Try.ntmps25
  go_wp2_with fail
  refine HGO.out.mono ?_
  rintro e w1 ⟨rfl, hd1, hm1⟩
  have HD1 := Lib.hid hd1
  have HM1 := Lib.hid hm1
  clear hd1 hm1 c0 c1 c2 c3 c4 c5
  obtain ⟨es2, es3, es4, es5, es6, es7⟩ := HD1.out.cells
  obtain ⟨L, hL⟩ : ∃ L, L = s.map byteVal := ⟨_, rfl⟩
  have hLl : L.length = 512 := by rw [hL, List.length_map]; exact h3
  have hL1 : ∀ u ∈ L, u.oneCell' = true := by rw [hL]; exact bytes_one s
  have hrange : w1.rangeAt b off L := by
    intro j u hj
    rw [hL] at hj
    have hj' : j < s.length := by simpa using (List.getElem?_eq_some_iff.1 hj).1
    simp [hj'] at hj
    subst hj
    exact HM1.out.cell (HS.out j hj') hbF
  have hbuild : ∀ w : World, (Instr.build 100 #[(0, .int .i64 i), (1, .agg L.toArray)]).run Try.prog w = .ok (.agg (.int .i64 i :: L).toArray) w := fun w => run_build w _ _ _ (built_wr i L hLl)
  have hbs : ∀ w : World, (Instr.buildSlice 94 1 #[(0, .agg (.int .i64 i :: L).toArray)]).run Try.prog w = .ok (.slice (some ⟨w.heap.size, 0, none⟩) 1 1) (w.alloc (.cells (.int .i64 i :: L).toArray 100)) := fun w => buildSlice_wr w _ (by simp [hLl])
  have harr : ∀ w : World, (Instr.arrayAt 98 (.slice (some ⟨b, off, none⟩) 512 cap)).run Try.prog w = .ok (.pointer (some ⟨b, off, none⟩)) w := fun w => run_arrayAt w 98 5 512 _ _ _ Try.underlying98 (by decide)
  have HLL := Lib.hid hLl
  have HL := Lib.hid hL
  have HL1 := Lib.hid hL1
  clear hL hLl hL1
  have hHeld : w1.drew.cell? ⟨p, 2, none⟩ = some wv ∧ w1.drew.rangeAt b off L := ⟨es4, hrange⟩
  have HR := Lib.hid hrange
  clear hrange
  go_wp2_with fail
  refine wp_region_C (fun w' => w'.cell? ⟨p, 2, none⟩ = some wv ∧ w'.rangeAt b off L) 11 (by kernel_rfl) ?_
  (refine wpAnyC_pure (i := 0) (oi := ⟨some 30, _, _, _, _, _⟩) (v := ?_) rfl (by kernel_rfl) (by kernel_rfl) (by kernel_rfl) (by kernel_rfl) (fun _ _ _ h => h) (Or.inl ⟨by rfl, ?_⟩) hHeld ?_; rotate_left; (focus (intro w; go_simp; first | done | with_reducible rfl)); try simp only [Act.put, List.setIfInBounds_toArray, List.set_cons_zero, List.set_cons_succ])
  (refine wpAnyC_take [2, 3, 4, 11] (i := 1) (oi := ⟨some 31, _, _, _, _, _⟩) (v := ?_) rfl (by kernel_rfl) (by kernel_rfl) (by kernel_rfl) (by kernel_rfl) (fun _ _ _ h => h) (Or.inl ⟨by rfl, ?_⟩) hHeld ?_; rotate_left; (focus (intro w hSw; obtain ⟨hSw1, hSw2⟩ := hSw; go_simp; first | done | with_reducible rfl)); try simp only [Act.put, List.setIfInBounds_toArray, List.set_cons_zero, List.set_cons_succ])
  (refine wpAnyC_take [3, 4, 11] (i := 2) (oi := ⟨some 32, _, _, _, _, _⟩) (v := ?_) rfl (by kernel_rfl) (by kernel_rfl) (by kernel_rfl) (by kernel_rfl) (fun _ _ _ h => h) (Or.inl ⟨by rfl, ?_⟩) hHeld ?_; rotate_left; (focus (intro w hSw; obtain ⟨hSw1, hSw2⟩ := hSw; go_simp; first | done | with_reducible rfl)); try simp only [Act.put, List.setIfInBounds_toArray, List.set_cons_zero, List.set_cons_succ])
  (refine wpAnyC_take [4, 11] (i := 3) (oi := ⟨some 33, _, _, _, _, _⟩) (v := ?_) rfl (by kernel_rfl) (by kernel_rfl) (by kernel_rfl) (by kernel_rfl) (fun _ _ _ h => h) (Or.inl ⟨by rfl, ?_⟩) hHeld ?_; rotate_left; (focus (intro w hSw; obtain ⟨hSw1, hSw2⟩ := hSw; go_simp; first | done | with_reducible rfl)); try simp only [Act.put, List.setIfInBounds_toArray, List.set_cons_zero, List.set_cons_succ])
  (refine wpAnyC_take [11] (i := 4) (oi := ⟨some 34, _, _, _, _, _⟩) (v := ?_) rfl (by kernel_rfl) (by kernel_rfl) (by kernel_rfl) (by kernel_rfl) (fun _ _ _ h => h) (Or.inl ⟨by rfl, ?_⟩) hHeld ?_; rotate_left; (focus (intro w hSw; obtain ⟨hSw1, hSw2⟩ := hSw; go_simp; first | done | with_reducible rfl)); try simp only [Act.put, List.setIfInBounds_toArray, List.set_cons_zero, List.set_cons_succ])
  (refine wpAnyC_take [9, 10, 11] (i := 5) (oi := ⟨some 35, _, _, _, _, _⟩) (v := ?_) rfl (by kernel_rfl) (by kernel_rfl) (by kernel_rfl) (by kernel_rfl) (fun _ _ _ h => h) (Or.inl ⟨by rfl, ?_⟩) hHeld ?_; rotate_left; (focus (intro w hSw; obtain ⟨hSw1, hSw2⟩ := hSw; go_simp; first | done | with_reducible rfl)); try simp only [Act.put, List.setIfInBounds_toArray, List.set_cons_zero, List.set_cons_succ])
  (refine wpAnyC_take [7, 8, 9, 10, 11] (i := 6) (oi := ⟨some 36, _, _, _, _, _⟩) (v := ?_) rfl (by kernel_rfl) (by kernel_rfl) (by kernel_rfl) (by kernel_rfl) (fun _ _ _ h => h) (Or.inl ⟨by rfl, ?_⟩) hHeld ?_; rotate_left; (focus (intro w hSw; obtain ⟨hSw1, hSw2⟩ := hSw; go_simp; first | done | with_reducible rfl)); try simp only [Act.put, List.setIfInBounds_toArray, List.set_cons_zero, List.set_cons_succ])
  (refine wpAnyC_take [8, 9, 10, 11] (i := 7) (oi := ⟨some 37, _, _, _, _, _⟩) (v := ?_) rfl (by kernel_rfl) (by kernel_rfl) (by kernel_rfl) (by kernel_rfl) (fun _ _ _ h => h) (Or.inl ⟨by rfl, ?_⟩) hHeld ?_; rotate_left; (focus (intro w hSw; obtain ⟨hSw1, hSw2⟩ := hSw; go_simp; first | done | with_reducible rfl)); try simp only [Act.put, List.setIfInBounds_toArray, List.set_cons_zero, List.set_cons_succ])
  (refine wpAnyC_take [9, 10, 11] (i := 8) (oi := ⟨some 38, _, _, _, _, _⟩) (v := .agg L.toArray) rfl (by kernel_rfl) (by kernel_rfl) (by kernel_rfl) (by kernel_rfl) (fun _ _ _ h => h) (yieldsIf_load_mid (by rfl) 98 _ rfl b off rfl L _ (fun w h => h.2) Try.underlying98 rfl (by rw [HLL.out]; exact size_sec)) hHeld ?_; try simp only [Act.put, List.setIfInBounds_toArray, List.set_cons_zero, List.set_cons_succ])
  (refine wpAnyC_take [10, 11] (i := 9) (oi := ⟨some 39, _, _, _, _, _⟩) (v := .agg (.int .i64 i :: L).toArray) rfl (by kernel_rfl) (by kernel_rfl) (by kernel_rfl) (by kernel_rfl) (fun _ _ _ h => h) (Or.inl ⟨by rfl, fun w _ => exec_build rfl (by simp [Act.eval]) (hbuild w)⟩) hHeld ?_; try simp only [Act.put, List.setIfInBounds_toArray, List.set_cons_zero, List.set_cons_succ])
  refine wpAnyC_one (i := 10) (oi := ⟨some 40, _, _, _, _, _⟩) rfl (by kernel_rfl) (by decide) (fun K hK => ?_)
  rw [if_pos (by rfl)]
  refine wp_buildSlice rfl (by simp [Act.eval]) (hbs _) ?_
  refine hK.out _ _ ⟨?_, World.rangeAt_alloc hHeld.2 _⟩ ?_
  · rw [World.cell?_alloc_lt _ _ _ (World.block_lt_of_cell? _ _ hHeld.1)]; exact hHeld.1
  clear hK K
  try simp only [Act.put, List.setIfInBounds_toArray, List.set_cons_zero, List.set_cons_succ]
  have hone : Hid (∀ u ∈ (Value.int .i64 i :: L), u.oneCell' = true) := by
    intro u hu
    rcases List.mem_cons.1 hu with rfl | hu
    · rfl
    · exact HL1.out u hu
  have hnews : Hid (∀ j u, (Value.int .i64 i :: L)[j]? = some u → (w1.drew.alloc (.cells (.int .i64 i :: L).toArray 100)).cell? ((⟨w1.drew.heap.size, 0, none⟩ : Addr).add j) = some u) := by
    intro j u hj
    rw [Addr.add_lit, World.cell?_alloc_at _ _ _ _ rfl]
    simpa using hj
  refine wpAnyC_c (oi := ⟨some 41, _, _, _, _, _⟩) rfl (by kernel_rfl) (fun K hK => ?_)
  rw [if_pos (by rfl)]
  refine wp_append_lies _ _ _ 94 rfl 0 100 it z 513 520 Try.underlying94 hit hz0 hz1 hz2 hz3 (by decide) wv wait.length (wait.flatMap D.wrCells) rfl (by have := HD1.out.row; rw [HG.out] at this; exact this.drew.alloc _) ⟨w1.drew.heap.size, 0, none⟩ 1 1 (.int .i64 i :: L) rfl (by simp [HLL.out]) hnews.out hone.out (by decide) (by unfold maxLen; omega) (by omega) (Nat.zero_le _) (w1.heap.size + 1) (by simp) ?_
  intro g cp w2 hown2 hgrow2 hat2 hlt2
  have HW := Lib.hid (write_after HD1.out _ g cp i s ⟨h1, by rw [hGnn.out]; exact h2⟩ HS3.out (by rw [HG.out, ← HL.out]; exact hown2) hgrow2 hat2)
  refine hK.out _ _ ?_
  clear hK K hown2 hgrow2 hat2 hlt2 hHeld
  try simp only [Act.put, List.setIfInBounds_toArray, List.set_cons_zero, List.set_cons_succ]
  obtain ⟨k1, k2, HWD⟩ := HW.out
  have HWD := Lib.hid HWD
  clear HW
  (refine wpAny_take (i := 12) (oi := ⟨some 42, _, _, _, _, _⟩) (v := ?_) rfl (by kernel_rfl) (by kernel_rfl) (by kernel_rfl) (fun _ _ _ h => h) (Or.inl ⟨by rfl, ?_⟩) ?_; rotate_left; (focus (intro w; go_simp; first | done | with_reducible rfl)); try simp only [Act.put, List.setIfInBounds_toArray, List.set_cons_zero, List.set_cons_succ])
  (refine wpAny_take (i := 13) (oi := ⟨some 43, _, _, _, _, _⟩) (v := ?_) rfl (by kernel_rfl) (by kernel_rfl) (by kernel_rfl) (fun _ _ _ h => h) (Or.inl ⟨by rfl, ?_⟩) ?_; rotate_left; (focus (intro w; go_simp; first | done | with_reducible rfl)); try simp only [Act.put, List.setIfInBounds_toArray, List.set_cons_zero, List.set_cons_succ])
  refine wpAny_one (i := 14) (oi := ⟨none, _, _, _, _, _⟩) rfl (by kernel_rfl) (fun K hK => ?_)
  rw [if_pos (by rfl)]
  go_simp
  refine hK.out _ _ ?_
  clear hK K
  try simp only [Act.put, List.setIfInBounds_toArray, List.set_cons_zero, List.set_cons_succ]
  refine wpAny_done (by kernel_rfl) ?_ _
  have hfin : Hid (Wrote w (w2.setCell ⟨p, 2, none⟩ (.slice (some ⟨g, 0, none⟩) (wait.length + 1) cp)) p m wv { G with wait := wait ++ [(i, s)] }) := by
    obtain ⟨q1, q2, q3⟩ := HWD.out
    rw [HG.out] at q1 q2
    refine ⟨_, q1, HM1.out.trans q2 (fun _ _ h => h), fun k hk => ?_⟩
    have : g = k := by simpa [Value.ownBlock] using hk
    subst this
    rcases q3 with q3 | q3
    · exact .inl q3
    · exact .inr (Nat.le_trans HM1.out.size q3)
  clear k1 k2 HWD
  cases dn
  · go_wp2
    go_ret
    exact ⟨rfl, hfin.out⟩
  · go_wp2
    go_ret
    exact ⟨rfl, hfin.out⟩
end Go.Proofs.Ytmcmocakfhedfaa
