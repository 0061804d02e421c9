/- MSt3: StI StJ StK StL. -/
import Derived.Test.YtnjfioikpajhlaaGreatStH
set_option maxRecDepth 100000
set_option maxHeartbeats 64000000
namespace Go.Proofs.YtnjfioikpajhlaaGreat
open Go.RowKit Go.Shelf
def GotE (w w' : World) (r : Option S6.Pr) (e : Ending) : Prop :=
 ∃ v' : Value, e = .returned (.tuple #[v', .int .u64 (((r.map (fun p => p.ver)).getD 0 : Nat) : Int), .bool r.isSome]) /\ Ext w w' /\ w'.ownsRow w.heap.size 5 1 v' ((r.map (fun p => p.val)).getD []).length (((r.map (fun p => p.val)).getD []).map byteVal)
theorem get6_any (w : World) (Y : Nat -> Prop) (q : Nat) (xv : Value) (x : S6.Idx) (key : List UInt8) (h : IdxIn w Y xv x) (ho : S6.IOk x) (hp : ∀ p ∈ x.flatten, S6.POk S6.lastN p) (hl : x.flatten.length <= 900000) (c0 : w.cell? ⟨q, 0, none⟩ = some xv) :
 Calls Tryz.prog 21 #[.pointer (some ⟨q, 0, none⟩), strV key] w fun e w' => GotE w w' (S6.look x.flatten key) e := by
 obtain ⟨hil, hil2⟩ := IOk.len ho
 have HF := qh (find_any w Y xv x key h ho (by omega) (fun p hp => by have := hil2 p hp; omega))
 unfold GotE
 by_cases hhas : (S6.find x key).2.2 = true
 ·obtain ⟨pn, an, p0, xb, xo, xc, pm, b3, o3, pc, u3, hfd, hlook, hkey, rfl, hpn, han, g0, g1, g2, g3, hbs3, -⟩ := idx_has h ho hhas
  have hp0 := hp _ (S6.look_some hlook).1
  have hvl := hp0.val
  rw [hlook]
  simp only [Option.map_some, Option.getD_some, Option.isSome_some]
  rw [hfd] at HF
  have HB := qh hbs3
  obtain ⟨ua, uc, rfl⟩ := hbs3.shape
  have hpi : (pn : Int) < (x.length : Int) := by omega
  have hai : (an : Int) < (pm : Int) := by omega
  clear h ho hp hlook hkey hfd hhas hp0 hbs3 hil hil2
  unfold findV strV at HF
  unfold strV
  go_enter Tryz.func21, Tryz.ntmps21
  go_wp2_with fail
  refine HF.out.mono ?_
  clear HF
  rintro e w2 ⟨rfl, hx2⟩
  have c0' := hx2.cell c0
  have g0' := hx2.cell g0
  have g2' := hx2.cell g2
  have g3' := hx2.cell g3
  have HB2 := qh (HB.out.ext hx2)
  have HX2 := qh hx2
  clear c0 g0 g1 g2 g3 hx2 HB
  dsimp only
  have hcl : ∀ v, Ext w2 v -> Calls Tryz.prog 56 #[.slice ua p0.val.length uc] v fun e w' => MadeB v w' p0.val e := fun v hv => clone_any _ p0.val v (Bs.ext HB2.out hv) (by omega)
  have hkeep : ∀ v, Ext w2 v -> (Ext w2 v /\ v.cell? ⟨q, 0, none⟩ = some (.slice (some ⟨xb, xo, none⟩) x.length xc) /\ v.cell? ⟨xb, xo + pn, none⟩ = some (.slice (some ⟨b3, o3, none⟩) pm pc) /\ v.cell? ⟨b3, o3 + an * 3 + 1, none⟩ = some (.slice ua p0.val.length uc) /\ v.cell? ⟨b3, o3 + an * 3 + 2, none⟩ = some (.int .u64 (p0.ver : Int))) := fun v hv => ⟨hv, hv.cell c0', hv.cell g0', hv.cell g2', hv.cell g3'⟩
  go_wp2_with fail
  go_region_held3 (fun v => Ext w2 v /\ v.cell? ⟨q, 0, none⟩ = some (.slice (some ⟨xb, xo, none⟩) x.length xc) /\ v.cell? ⟨xb, xo + pn, none⟩ = some (.slice (some ⟨b3, o3, none⟩) pm pc) /\ v.cell? ⟨b3, o3 + an * 3 + 1, none⟩ = some (.slice ua p0.val.length uc) /\ v.cell? ⟨b3, o3 + an * 3 + 2, none⟩ = some (.int .u64 (p0.ver : Int))) ((refine hkeep _ ?_; repeat (first | assumption | exact Ext.refl _ | refine Ext.alloc ?_ _ | refine Ext.drew ?_ | refine Ext.trans ?_ (by assumption)))) (first
   | (go_at_call 56; refine (hcl _ (by repeat (first | assumption | exact Ext.refl _ | refine Ext.alloc ?_ _ | refine Ext.drew ?_ | refine Ext.trans ?_ (by assumption)))).mono ?_; rintro e w8 ⟨v8, rfl, hown8, hx8⟩))
  all_goals go_wp2
  all_goals go_ret3
  all_goals exact ⟨_, rfl, HX2.out.trans ((Ext.of_drew w2).trans hx8), ownsRow_base5 hown8 HX2.out.size⟩
 ·have hfalse : (S6.find x key).2.2 = false := by simpa using hhas
  have hnone := (S6.look_find ho key).2 hfalse
  rw [hnone]
  obtain ⟨_, xa, xc, rfl, _⟩ := h.shape
  unfold findV strV at HF
  rw [hfalse] at HF
  simp only [Option.map_none, Option.getD_none, Option.isSome_none]
  unfold strV
  clear h ho hp hnone hhas hil hil2
  go_enter Tryz.func21, Tryz.ntmps21
  go_wp2_with fail
  refine HF.out.mono ?_
  clear HF
  rintro e w2 ⟨rfl, hx2⟩
  have HX2 := qh hx2
  clear hx2
  dsimp only
  go_wp2
  go_ret3
  exact ⟨_, rfl, HX2.out, World.ownsRow_nil _ _ _ _⟩
theorem number6_any (w : World) (q m : Nat) (c2 : w.cell? ⟨q, 2, none⟩ = some (.int .u64 (m : Int))) :
 Calls Tryz.prog 23 #[.pointer (some ⟨q, 0, none⟩)] w fun e w' => e = .returned (.int .u64 (m : Int)) /\ w = w' := by
 go_enter Tryz.func23, Tryz.ntmps23
 go_wp2
 go_ret
 exact ⟨rfl, rfl⟩
theorem len6_any (w : World) (q n : Nat) (c1 : w.cell? ⟨q, 1, none⟩ = some (.int .i64 (n : Int))) :
 Calls Tryz.prog 22 #[.pointer (some ⟨q, 0, none⟩)] w fun e w' => e = .returned (.int .i64 (n : Int)) /\ w = w' := by
 go_enter Tryz.func22, Tryz.ntmps22
 go_wp2
 go_ret
 exact ⟨rfl, rfl⟩
end Go.Proofs.YtnjfioikpajhlaaGreat
namespace Go.Proofs.YtnjfioikpajhlaaGreat
open Go.RowKit Go.Shelf
theorem el_rows : Elem 90 56 1 24 := elem_of Tryz.underlying90 (by decide) (by decide) (by kernel_rfl)
theorem RowsO.one {w3 : World} {base : Nat} {u : Value} {b : List UInt8} (hb : base <= w3.heap.size) (hu : w3.ownsRow base 5 1 u b.length (b.map byteVal)) : RowsO (w3.alloc (.cells #[u] 56)) base (.slice (some ⟨w3.heap.size, 0, none⟩) 1 1) [u] [b] := by
 refine ⟨⟨by simp, .inr ⟨w3.heap.size, 1, #[u], rfl, hb, heap_alloc_new _ _, Nat.le_refl _, by unfold maxLen; simp, by simp, by simp⟩⟩, rfl, fun i hi => ?_⟩
 obtain rfl : i = 0 := by simpa using hi
 exact ⟨u, rfl, (Ext.of_alloc w3 _).keptOwn hu⟩
namespace S6
def imgTo (x : Idx) (m i : Nat) (pg : List Pr) (j : Nat) : List (List UInt8) := batchB m [] :: ((x.take i).flatten ++ pg.take j).map prB
theorem imgTo_succ (x : Idx) (m i : Nat) (pg : List Pr) (j : Nat) (h : j < pg.length) : imgTo x m i pg (j + 1) = imgTo x m i pg j ++ [prB pg[j]] := by
 unfold imgTo
 rw [List.take_succ_eq_append_getElem h, <- List.append_assoc, List.map_append (l₁ := (x.take i).flatten ++ pg.take j)]
 rfl
theorem imgTo_next (x : Idx) (m i : Nat) (h : i < x.length) : imgTo x m i x[i] x[i].length = imgTo x m (i + 1) [] 0 := by
 unfold imgTo
 rw [List.take_length, List.take_succ_eq_append_getElem h, List.flatten_append]
 simp
theorem imgTo_start (x : Idx) (m i : Nat) (pg : List Pr) : imgTo x m i pg 0 = imgTo x m i [] 0 := by unfold imgTo; simp
theorem imgTo_all (x : Idx) (m : Nat) : imgTo x m x.length [] 0 = image x.flatten m := by unfold imgTo image; simp
theorem imgTo_len (x : Idx) (m i : Nat) (pg : List Pr) (j : Nat) : (imgTo x m i pg j).length <= x.flatten.length + pg.length + 1 := by
 unfold imgTo
 have h1 : ((x.take i).flatten).length <= x.flatten.length := by
  have h2 : x.flatten = (x.take i).flatten ++ (x.drop i).flatten := by rw [<- List.flatten_append, List.take_append_drop]
  rw [h2, List.length_append]; omega
 simp only [List.length_cons, List.length_map, List.length_append, List.length_take]
 omega
end S6
theorem image_any (w : World) (X : Nat -> Prop) (xv : Value) (x : S6.Idx) (m n nd : Nat) (h : IdxIn w X xv x) (ho : S6.IOk x) (hp : ∀ p ∈ x.flatten, S6.POk S6.lastN p) (hl : x.flatten.length <= 900000) (hm : m <= S6.lastN) :
 Calls Tryz.prog 50 #[.agg #[xv, .int .i64 (n : Int), .int .u64 (m : Int), .int .i64 (nd : Int)]] w fun e w' => ∃ v vs, e = .returned v /\ RowsO w' w.heap.size v vs (S6.image x.flatten m) /\ Ext w w' := by
 obtain ⟨hil, hil2⟩ := IOk.len ho
 obtain ⟨_, xa, xc, rfl, hxc, hcell⟩ := h.shape
 have HC := qh hcell
 have HP := qh hp
 have hili : (x.length : Int) <= 900000 := by omega
 have hb0 := S6.batch0_len m hm
 have hm2 : m < 18446744073709551616 := by unfold S6.lastN at hm; omega
 have HB0 := qh (fun w1 => batch_any w1 (fun _ => True) (.slice none 0 0) m [] (WrsIn.nil w1 _) hm2 (by simp) (by simp))
 have HIL2 := qh hil2
 clear h ho hp hcell hil2
 go_enter Tryz.func50, Tryz.ntmps50
 go_wp2_with fail
 refine (HB0.out _).mono ?_
 rintro e w2 ⟨v2, rfl, hown2, hx2⟩
 have hx1 := Ext.of_alloc w (.cells #[.slice xa x.length xc, .int .i64 (n : Int), .int .u64 (m : Int), .int .i64 (nd : Int)] 87)
 have HR := qh (RowsO.one (base := w.heap.size) (hx1.trans hx2).size (ownsRow_base5 hown2 hx1.size))
 obtain ⟨va, vc, rfl⟩ := (Bs.of_own hown2).shape
 have HX3 := qh ((hx1.trans hx2).trans (Ext.of_alloc w2 (.cells #[.slice va (S6.batchB m []).length vc] 56)))
 have c0 : (w.alloc (.cells #[.slice xa x.length xc, .int .i64 (n : Int), .int .u64 (m : Int), .int .i64 (nd : Int)] 87)).cell? ⟨w.heap.size, 0, none⟩ = some (.slice xa x.length xc) := by rw [World.cell?_alloc_at _ _ _ _ rfl]; rfl
 have c0' := (Ext.of_alloc w2 (.cells #[.slice va (S6.batchB m []).length vc] 56)).cell (hx2.cell c0)
 rw [show [S6.batchB m []] = S6.imgTo x m 0 [] 0 by unfold S6.imgTo; simp] at HR
 generalize (S6.batchB m []).length = bl at *
 clear c0 hown2 hx1 hx2 HB0
 go_wp2_with fail
 go_loopw [3, 15] (fun ov iv wr => ∃ (i : Nat) (vs : List Value), i <= x.length /\ iv = .int .i64 (i : Int) /\ Hid (RowsO wr w.heap.size ov vs (S6.imgTo x m i [] 0)) /\ Hid (Ext w wr)) (fun _ iv _ => x.length - (intOf iv).toNat)
 case atStart => exact ⟨0, _, by omega, rfl, HR, HX3⟩
 case round =>
  obtain ⟨i, vs, hi, rfl, hR, hX⟩ := hrel
  clear HR HX3 c0'
  by_cases hlt : i < x.length
  ·have hlti : (i : Int) < (x.length : Int) := by omega
   obtain ⟨b, off, u, rfl, -, g0, hpg⟩ := HC.out i hlt
   obtain ⟨_, pa, pc, rfl, hpc, hq⟩ := hpg.shape
   have g0' := hX.out.cell g0
   have hpl := HIL2.out _ (List.getElem_mem hlt)
   have HQ := qh hq
   have HN := qh (S6.imgTo_next x m i hlt)
   have HPM := qh (show ∀ p ∈ x[i], S6.POk S6.lastN p from fun p hp => HP.out p (List.mem_flatten.2 ⟨_, List.getElem_mem hlt, hp⟩))
   rw [<- S6.imgTo_start x m i x[i]] at hR
   clear g0 hpg hq
   generalize x[i] = pg at *
   have hpli : (pg.length : Int) <= 900000 := by omega
   go_wp2_with fail
   go_loopw [3, 21] (fun ov jv wr2 => ∃ (j : Nat) (vs : List Value), j <= pg.length /\ jv = .int .i64 (j : Int) /\ Hid (RowsO wr2 w.heap.size ov vs (S6.imgTo x m i pg j)) /\ Hid (Ext w wr2)) (fun _ jv _ => pg.length - (intOf jv).toNat)
   case atStart => exact ⟨0, _, by omega, rfl, hR, hX⟩
   case round =>
    obtain ⟨j, vs2, hj, rfl, hR2, hX2⟩ := hrel
    clear hR hX g0'
    by_cases hlt2 : j < pg.length
    ·have hlt2i : (j : Int) < (pg.length : Int) := by omega
     obtain ⟨b3, o3, u3, rfl, -, c0, c1, c2, hbu, -⟩ := HQ.out j hlt2
     have hpo := HPM.out _ (List.getElem_mem hlt2)
     have HS := qh (S6.imgTo_succ x m i pg j hlt2)
     have hil9 := S6.imgTo_len x m i pg j
     replace c0 := hX2.out.cell c0
     replace c1 := hX2.out.cell c1
     replace c2 := hX2.out.cell c2
     replace hbu := hbu.ext hX2.out
     generalize pg[j] = p at *
     have hk := hpo.key
     have hv := hpo.val
     have hve := hpo.ver
     unfold S6.lastN at hve
     obtain ⟨ua, uc, rfl⟩ := hbu.shape
     unfold strV at c0
     have HBU := qh hbu
     have HBT := qh (fun (W : World) (hh : WrsIn W (fun _ => True) (.slice (some ⟨wr.heap.size + 1, 0, none⟩) 1 1) [⟨p.key, p.val, false, 0⟩]) => batch_any W (fun _ => True) _ p.ver [⟨p.key, p.val, false, 0⟩] hh (by omega) (by simp) (by intro y hy; rw [List.mem_singleton] at hy; subst hy; exact ⟨by simp only; omega, by simp only; omega⟩))
     clear hbu hpo
     go_wp2_with fail
     have hy1 := Ext.of_alloc wr (.cells #[.string ⟨p.key.toArray⟩, .slice ua p.val.length uc, .int .u64 (p.ver : Int)] 129)
     have hW := WrsIn.one (wr.alloc (.cells #[.string ⟨p.key.toArray⟩, .slice ua p.val.length uc, .int .u64 (p.ver : Int)] 129)) (fun _ => True) ⟨p.key, p.val, false, 0⟩ _ (HBU.out.ext hy1) (fun _ _ => trivial)
     rw [World.size_alloc] at hW
     refine (HBT.out _ (hW.mono (fun _ _ => trivial))).mono ?_
     clear HBT hW
     rintro e w4 ⟨v4, rfl, hown4, hx4⟩
     have HX4 := qh ((hy1.trans (Ext.of_alloc _ _)).trans hx4)
     have HO4 := qh (show w4.ownsRow wr.heap.size 5 1 v4 (S6.prB p).length ((S6.prB p).map byteVal) from ownsRow_base5 hown4 (hy1.trans (Ext.of_alloc _ _)).size)
     have hrow := hR2.out.row
     have hs2 := hX2.out.size
     have hs4 := HX4.out.size
     clear hy1 hx4 hown4 c0 c1 c2 HBU
     obtain ⟨va4, vc4, hv4⟩ := (Bs.of_own HO4.out).shape
     generalize (S6.prB p).length = bl4 at *
     subst hv4
     have hrd := ReadsN.row 1 w4 [.slice va4 bl4 vc4] 56 1 rfl (by unfold maxLen; omega) (by simp [Value.oneCell'])
     have hxa := Ext.of_alloc w4 (.cells #[.slice va4 bl4 vc4] 56)
     go_wp2_with (first
      | ((with_reducible show wpList _ _ _ (⟨some 35, _, _, _, _, _⟩ :: _) _ _); refine wpl_build1 el_rows _ rfl _ rfl (.slice va4 bl4 vc4) rfl (by rfl) ?_)
      | ((with_reducible show wpList _ _ _ (⟨some 36, _, _, _, _, _⟩ :: _) _ _); refine wpl_appg el_rows w.heap.size _ (Nat.le_trans (Nat.le_trans hs2 hs4) hxa.size) rfl _ _ rfl u3 (S6.imgTo x m i pg j).length vs2 (by rfl) ((HX4.out.trans hxa).keptOwn hrow) (.slice (some ⟨w4.heap.size, 0, none⟩) 1 1) 1 _ (by rfl) hrd (by omega) (by omega) ?_; intro v5 w5 hown5 hg5)
      | fail)
     have hbl : bl4 = (S6.prB p).length := by have := HO4.out.1; simp at this; omega
     have hu4 : (w4.alloc (.cells #[.slice va4 bl4 vc4] 56)).ownsRow wr.heap.size 5 1 (.slice va4 bl4 vc4) (S6.prB p).length ((S6.prB p).map byteVal) := by rw [<- hbl]; exact hxa.keptOwn HO4.out
     have hpush := hR2.out.push (HX4.out.trans hxa) hs2 (Nat.le_refl _) hu4 hown5 hg5
     rw [<- HS.out] at hpush
     exact ⟨⟨j + 1, _, by omega, by go_num, hpush, (hX2.out.trans (HX4.out.trans hxa)).grown hg5 (fun k hk => (hrow.lt k hk).1)⟩, by simp [intOf]; omega⟩
    ·obtain rfl : j = pg.length := by omega
     rw [HN.out] at hR2
     go_wp2
     exact ⟨⟨i + 1, _, by omega, by go_num, hR2, hX2⟩, by simp [intOf]; omega⟩
  ·obtain rfl : i = x.length := by omega
   rw [S6.imgTo_all] at hR
   go_wp2
   go_ret
   exact ⟨_, _, rfl, hR.out, hX.out⟩
end Go.Proofs.YtnjfioikpajhlaaGreat
namespace Go.Proofs.YtnjfioikpajhlaaGreat
open Go.RowKit Go.Shelf
theorem str_keyed : Maps.Keyed Tryz.prog 9 := Maps.string_keyed Tryz.underlying9
theorem keyOf_str_mk (l : List UInt8) (h : l.length <= maxLen) : keyOf Tryz.prog 9 (.string ⟨l.toArray⟩) = some (.string l) := by
 have hs : (⟨l.toArray⟩ : ByteArray).size = l.length := by show l.toArray.size = _; simp
 simp [keyOf, Tryz.underlying9, mapKey, hs, h]
def SMap (w : World) (m : Nat) (done : List S6.Wr) : Prop :=
 ∃ D, w.ownsMap Tryz.prog 9 (plainElem (H := Unit) Tryz.prog 3) m done.length D /\ ∀ key : List UInt8, Maps.has D (.string key) = S6.named done key
theorem SMap.mod {F : Nat -> Prop} {w w' : World} {m : Nat} {done : List S6.Wr} (h : SMap w m done) (hm : Mod F w w') (hF : ¬ F m) : SMap w' m done := by
 obtain ⟨D, ho, hf⟩ := h
 have hlt := ho.lt
 obtain ⟨es, clock, hb, r⟩ := ho
 exact ⟨D, ⟨es, clock, (hm.block m hlt hF).trans hb, r⟩, hf⟩
theorem SMap.made (w : World) : SMap (w.alloc (.map #[] 0)) w.heap.size [] := ⟨_, World.ownsMap_made w Tryz.prog 9 _, fun _key => rfl⟩
theorem SMap.put {w w' : World} {m : Nat} {done : List S6.Wr} {D : DataW Unit} {x : S6.Wr} (ho : w.ownsMap Tryz.prog 9 (plainElem (H := Unit) Tryz.prog 3) m done.length D) (hf : ∀ key : List UInt8, Maps.has D (.string key) = S6.named done key) {d : DataW Unit}
 (h2 : w'.ownsMap Tryz.prog 9 (plainElem (H := Unit) Tryz.prog 3) m (done.length + 1) (D.put (.string x.key) d)) : SMap w' m (done ++ [x]) := by
 refine ⟨_, by rw [List.length_append]; exact h2, fun key => ?_⟩
 have e : S6.named (done ++ [x]) key = (S6.named done key || decide (x.key = key)) := by unfold S6.named; simp
 rw [e]
 by_cases hk : key = x.key
 ·subst hk
  rw [Maps.has_put_same (ho.isMap) (by trivial)]; simp
 ·rw [Maps.has_put_other (by intro h; injection h with h; exact hk h), hf key]
  simp [Ne.symm hk]
theorem zero_int (w : World) : (zeroValue 3).run Tryz.prog w = .ok (.int .i64 0) w := by
 have h : (Tryz.prog.info? 3).map (fun i => i.zero) = some (some (.int .i64 0)) := by kernel_rfl
 cases hi : Tryz.prog.info? 3 with
 | none => rw [hi] at h; cases h
 | some i =>
  rw [hi] at h
  have hz : i.zero = some (.int .i64 0) := by simpa using h
  simp [zeroValue, typeInfo, hi, hz]
theorem S6.wrongF_cons (l : List S6.Pr) (pre : List S6.Wr) (x : S6.Wr) (r : List S6.Wr) : S6.wrongF l pre (x :: r) = if S6.wrongOne l pre x ≠ 0 then S6.wrongOne l pre x else S6.wrongF l (pre ++ [x]) r := rfl
theorem wrong_any (w : World) (X Y : Nat -> Prop) (_hXw : ∀ k, X k -> k < w.heap.size) (_hYw : ∀ k, Y k -> k < w.heap.size) (q : Nat) (xv v : Value) (x : S6.Idx) (ws : List S6.Wr) (h : IdxIn w Y xv x) (ho : S6.IOk x) (hp : ∀ p ∈ x.flatten, S6.POk S6.lastN p) (hl : x.flatten.length <= 900000)
 (c0 : w.cell? ⟨q, 0, none⟩ = some xv) (hw : WrsIn w X v ws) :
 Calls Tryz.prog 44 #[.pointer (some ⟨q, 0, none⟩), v] w fun e w' => e = .returned (.int .i64 (S6.wrongE x.flatten ws)) /\ Ext w w' := by
 obtain ⟨_, va, vc, rfl, _⟩ := hw.shape
 by_cases h64 : 64 < ws.length
 ·have e : S6.wrongE x.flatten ws = 2 := by unfold S6.wrongE; rw [if_pos h64]
  rw [e]
  have h64i : (64 : Int) < (ws.length : Int) := by omega
  clear e h ho hp hw
  go_enter Tryz.func44, Tryz.ntmps44
  go_wp2
  go_ret
  exact ⟨rfl, Ext.refl w⟩
 ·have e : S6.wrongE x.flatten ws = S6.wrongF x.flatten [] ws := by unfold S6.wrongE; rw [if_neg h64]
  rw [e]
  clear e
  have h64i : ¬ (64 : Int) < (ws.length : Int) := by omega
  have h64d : decide ((64 : Int) < (ws.length : Int)) = false := decide_eq_false h64i
  have hli : (ws.length : Int) <= 64 := by omega
  generalize hres : S6.wrongF x.flatten [] ws = res at *
  have HRES := qh hres
  have HI := qh h
  have HW := qh hw
  have HO := qh ho
  have HP := qh hp
  have hq : q < w.heap.size := World.block_lt_of_cell? w _ c0
  have HC0 := qh c0
  obtain ⟨m, hm⟩ : ∃ m, m = w.heap.size := ⟨_, rfl⟩
  obtain ⟨W1, hW1⟩ : ∃ W1, W1 = w.alloc (.map #[] 0) := ⟨_, rfl⟩
  have hx1 : Ext w W1 := by rw [hW1]; exact Ext.of_alloc _ _
  have hSM : SMap W1 m [] := by rw [hW1, hm]; exact SMap.made w
  have HX1 := qh hx1
  have HSM := qh hSM
  have HM := qh hm
  clear h ho hp hw hres c0 hx1 hSM
  have hmm := @run_makeMap Tryz.prog
  go_enter Tryz.func44, Tryz.ntmps44
  go_upto_region 4 with fail
  rw [<- hW1, <- hm]
  clear hW1 hm
  go_wp2_with fail
  go_loopw [19] (fun iv wr => ∃ k : Nat, k <= ws.length /\ iv = .int .i64 (k : Int) /\ Hid (SMap wr m (ws.take k)) /\ Hid (Mod (fun z => z = m) W1 wr) /\ Hid (res = S6.wrongF x.flatten (ws.take k) (ws.drop k))) (fun iv _ => ws.length - (intOf iv).toNat)
  case atStart => exact ⟨0, Nat.zero_le _, rfl, HSM, Mod.refl _ _, HRES.out.symm⟩
  case round =>
   obtain ⟨k, hk, rfl, hS, hM, hF⟩ := hrel
   clear HSM
   have hxr : Ext w wr := Mod.ext HX1.out hM.out (fun z hz => by have := HM.out; omega)
   have HXR := qh hxr
   by_cases hlt : k < ws.length
   ·have hlti : (k : Int) < (ws.length : Int) := by omega
    have hWr := HW.out.ext hxr
    obtain ⟨_, a9, c9, hv9, hc9, hcell⟩ := hWr.shape
    obtain ⟨rfl, _, rfl⟩ := Value.slice.inj hv9
    obtain ⟨b, off, u, rfl, hXb, c0, c1, c2, c3, hbu, huX⟩ := hcell k hlt
    have hF2 := hF.out
    rw [List.drop_eq_getElem_cons hlt] at hF2
    have HTK := qh (show ws.take (k + 1) = ws.take k ++ [ws[k]] from List.take_succ_eq_append_getElem hlt)
    obtain ⟨key, val, dr, ver, hwe⟩ : ∃ key val dr ver, ws[k] = (⟨key, val, dr, ver⟩ : S6.Wr) := ⟨_, _, _, _, rfl⟩
    rw [hwe] at c0 c2 c3 hbu hF2 HTK
    simp only at c0 c2 c3 hbu
    have HF2 := qh hF2
    have htl : (ws.take k).length = k := by rw [List.length_take]; omega
    clear hwe hF2 hF hcell hv9 hWr hxr
    unfold strV at c0
    obtain ⟨ua, uc, rfl⟩ := hbu.shape
    rw [S6.wrongF_cons] at HF2
    obtain ⟨W3, hW3⟩ : ∃ W3, W3 = wr.alloc (.cells #[.string ⟨key.toArray⟩, .slice ua val.length uc, .bool dr, .int .u64 (ver : Int)] 58) := ⟨_, rfl⟩
    have hx3 : Ext wr W3 := by rw [hW3]; exact Ext.of_alloc _ _
    have t0 : W3.cell? ⟨wr.heap.size, 0, none⟩ = some (.string ⟨key.toArray⟩) := by rw [hW3, World.cell?_alloc_at _ _ _ _ rfl]; rfl
    have t1 : W3.cell? ⟨wr.heap.size, 1, none⟩ = some (.slice ua val.length uc) := by rw [hW3, World.cell?_alloc_at _ _ _ _ rfl]; rfl
    have t2 : W3.cell? ⟨wr.heap.size, 2, none⟩ = some (.bool dr) := by rw [hW3, World.cell?_alloc_at _ _ _ _ rfl]; rfl
    have t3 : W3.cell? ⟨wr.heap.size, 3, none⟩ = some (.int .u64 (ver : Int)) := by rw [hW3, World.cell?_alloc_at _ _ _ _ rfl]; rfl
    go_upto_region 7 with fail
    rw [<- hW3]
    have hmp : m < wr.heap.size := by have := hS.out; obtain ⟨_, ho, _⟩ := this; exact ho.lt
    clear hW3
    obtain ⟨pp, hpp⟩ : ∃ pp, pp = wr.heap.size := ⟨_, rfl⟩
    rw [<- hpp] at t0 t1 t2 t3 hmp ⊢
    clear hpp c0 c1 c2 c3
    have HX3 := qh (HXR.out.trans hx3)
    have HM3 := qh (show Mod (fun z => z = m) W1 W3 from Mod.trans hM.out (Mod.of_ext (F := fun z => z = m) hx3) (fun _ _ h => h))
    have hpm : ¬ pp = m := by omega
    by_cases hbad : key = [] ∨ 32 < key.length ∨ 4000 < val.length
    ·have hwo : S6.wrongOne x.flatten (ws.take k) ⟨key, val, dr, ver⟩ = 2 := by unfold S6.wrongOne; rw [if_pos hbad]
     rw [hwo, if_pos (by decide)] at HF2
     obtain rfl := HF2.out
     by_cases hk0 : key = []
     ·subst hk0
      go_wp2
      go_ret
      exact ⟨rfl, HX3.out⟩
     ·have hke : (key == ([] : List UInt8)) = false := by rw [beq_eq_false_iff_ne]; exact hk0
      by_cases hk32 : 32 < key.length
      ·have hk32i : (32 : Int) < (key.length : Int) := by omega
       go_wp2
       go_ret
       exact ⟨rfl, HX3.out⟩
      ·have hv : 4000 < val.length := by
        rcases hbad with h | h | h
        ·exact absurd h hk0
        ·exact absurd h hk32
        ·exact h
       have hvi : (4000 : Int) < (val.length : Int) := by omega
       have hk32i : ¬ (32 : Int) < (key.length : Int) := by omega
       have hk32d : decide ((32 : Int) < (key.length : Int)) = false := decide_eq_false hk32i
       go_wp2
       go_ret
       exact ⟨rfl, HX3.out⟩
    ·have hk0 : ¬ key = [] := fun h => hbad (.inl h)
     have hke : (key == ([] : List UInt8)) = false := by rw [beq_eq_false_iff_ne]; exact hk0
     have hk32i : ¬ (32 : Int) < (key.length : Int) := by omega
     have hk32d : decide ((32 : Int) < (key.length : Int)) = false := decide_eq_false hk32i
     have hvi : ¬ (4000 : Int) < (val.length : Int) := by omega
     have hvd : decide ((4000 : Int) < (val.length : Int)) = false := decide_eq_false hvi
     have hkey := keyOf_str_mk key (by unfold maxLen; omega)
     obtain ⟨D, hD, hDf⟩ := hS.out.mod (F := fun _ => False) (Mod.of_ext hx3) (fun h => h)
     have hD' := hD
     rw [htl] at hD'
     have HDo := qh hD
     have HDf := qh hDf
     have hhk := hDf key
     have hwo0 : S6.wrongOne x.flatten (ws.take k) ⟨key, val, dr, ver⟩ = if S6.named (ws.take k) key = true then 8 else if ver ≠ S6.verOf x.flatten key then 10 else if dr = true /\ (S6.look x.flatten key).isSome = false then 9 else 0 := by unfold S6.wrongOne; rw [if_neg hbad]
     rw [hwo0] at HF2
     clear hD hDf hwo0 hbad
     have hI3 := HI.out.ext HX3.out
     have c03 := HX3.out.cell HC0.out
     by_cases hnm : S6.named (ws.take k) key = true
     ·rw [if_pos hnm, if_pos (by decide)] at HF2
      obtain rfl := HF2.out
      rw [hnm] at hhk
      go_wp2_with (first
       | (at_lookup; refine wpList_lookup_own_ok_int _ rfl _ _ 162 rfl 9 3 .i64 str_keyed Tryz.underlying162 Tryz.underlying3 (zero_int _) m k D rfl hD' _ _ rfl hkey ?_; intro c hc hcw; rw [hhk])
       | fail)
      go_ret
      exact ⟨rfl, HX3.out⟩
     ·have hnmf : S6.named (ws.take k) key = false := by simpa using hnm
      rw [if_neg hnm] at HF2
      rw [hnmf] at hhk
      have hgk : ∀ W, Ext w W -> Calls Tryz.prog 21 #[.pointer (some ⟨q, 0, none⟩), strV key] W fun e w' => GotE W w' (S6.look x.flatten key) e := fun W hW => get6_any W Y q xv x key (HI.out.ext hW) HO.out HP.out hl (hW.cell HC0.out)
      unfold GotE strV at hgk
      have HG := qh hgk
      clear hgk hI3 c03
      go_wp2_with (first
       | (at_lookup; refine wpList_lookup_own_ok_int _ rfl _ _ 162 rfl 9 3 .i64 str_keyed Tryz.underlying162 Tryz.underlying3 (zero_int _) m k D rfl hD' _ _ rfl hkey ?_; intro c hc hcw; rw [hhk])
       | (at_mapUpdate; refine wpList_mapUpdate_in _ rfl _ _ _ 162 rfl 9 3 str_keyed Tryz.underlying162 (plainElem (H := Unit) Tryz.prog 3) m k D rfl hD' (by unfold maxLen; omega) _ _ _ rfl rfl hkey _ [] (plainElem_int Tryz.underlying3 (show (Lit.int .i64 (k : Int)).wf = true from WalkArith.wf_i64 ⟨by omega, by omega⟩)) ?_; intro w5 hown5 hturn5; have hm5 : Mod (fun z => z = m) W3 w5 := Mod.grown hturn5.grown (fun z e _ => by injection e with e; exact e.symm); have s0 := hm5.cell t0 hpm; have s2 := hm5.cell t2 hpm; have s3 := hm5.cell t3 hpm)
       | fail)
      have HX5 := qh (Mod.ext HX3.out hm5 (fun z hz => by have := HM.out; omega))
      have HM5 := qh (show Mod (fun z => z = m) W1 w5 from Mod.trans HM3.out hm5 (fun _ _ h => h))
      have HS5 := qh (show SMap w5 m (ws.take k ++ [⟨key, val, dr, ver⟩]) from SMap.put HDo.out HDf.out (by rw [htl]; exact hown5))
      clear hturn5 hown5 hm5 t0 t1 t2 t3 hD'
      refine (HG.out _ HX5.out).mono ?_
      clear HG
      rintro e w6 ⟨v6, rfl, hx6, -⟩
      have HX6 := qh (HX5.out.trans hx6)
      have HM6 := qh (show Mod (fun z => z = m) W1 w6 from Mod.trans HM5.out (Mod.of_ext (F := fun z => z = m) hx6) (fun _ _ h => h))
      have HS6 := qh (HS5.out.mod (F := fun _ => False) (Mod.of_ext hx6) (fun h => h))
      have r2 := hx6.cell s2
      have r3 := hx6.cell s3
      have hvo : S6.verOf x.flatten key = ((S6.look x.flatten key).map (fun p => p.ver)).getD 0 := rfl
      rw [hvo] at HF2
      clear hx6 s0 s2 s3 hvo HX5 HM5 HS5
      generalize ((S6.look x.flatten key).map (fun p => p.ver)).getD 0 = vo at *
      generalize (S6.look x.flatten key).isSome = has at *
      dsimp only
      rw [<- HTK.out] at HS6
      by_cases hver : ver = vo
      ·subst hver
       by_cases hdr : dr = true /\ has = false
       ·obtain ⟨rfl, rfl⟩ := hdr
        have e0 : (if ver ≠ ver then (10 : Int) else if true = true /\ false = false then 9 else 0) = 9 := by rw [if_neg (fun h => h rfl), if_pos ⟨rfl, rfl⟩]
        rw [e0, if_pos (by decide)] at HF2
        have h9 : (9 : Int) = res := HF2.out.symm
        subst h9
        go_wp2
        go_ret
        exact ⟨rfl, HX6.out⟩
       ·have e0 : (if ver ≠ ver then (10 : Int) else if dr = true /\ has = false then 9 else 0) = 0 := by rw [if_neg (fun h => h rfl), if_neg hdr]
        rw [e0, if_neg (fun h => h rfl)] at HF2
        have h0 : res = S6.wrongF x.flatten (ws.take (k + 1)) (ws.drop (k + 1)) := by have := HF2.out; rw [this, HTK.out]
        have H0 := qh h0
        clear h0
        cases dr with
        | true =>
         have hh : has = true := by simpa using hdr
         subst hh
         go_wp2
         exact ⟨⟨k + 1, by omega, by go_num, HS6, HM6, H0⟩, by simp [intOf]; omega⟩
        | false =>
         go_wp2
         exact ⟨⟨k + 1, by omega, by go_num, HS6, HM6, H0⟩, by simp [intOf]; omega⟩
      ·have h10 : (10 : Int) = res := by have := HF2.out; rw [if_pos hver, if_pos (by decide)] at this; exact this.symm
       subst h10
       have hvi : ((ver : Int) != (vo : Int)) = true := by rw [bne_iff_ne]; omega
       have hvj : ¬ (ver : Int) = (vo : Int) := by omega
       go_wp2
       go_ret
       exact ⟨rfl, HX6.out⟩
   ·obtain rfl : k = ws.length := by omega
    have h0 : res = 0 := by
     have := hF.out
     rw [List.drop_length] at this
     exact this
    subst h0
    go_wp2
    go_ret
    exact ⟨rfl, HXR.out⟩
end Go.Proofs.YtnjfioikpajhlaaGreat
namespace Go.Proofs.YtnjfioikpajhlaaGreat
open Go.RowKit Go.Shelf
structure PairsO (w : World) (base : Nat) (v : Value) (us : List Value) (ps : List S6.Pr) : Prop where
 row : w.ownsRow base 129 3 v ps.length (prcs ps us)
 len : us.length = ps.length
 each : ∀ i (h : i < ps.length), ∃ u, us[i]? = some u /\ w.ownsRow base 5 1 u ps[i].val.length (ps[i].val.map byteVal)
 two : ∀ (i j : Nat) (a b : Value), i < j -> us[i]? = some a -> us[j]? = some b -> ∀ k, a.ownBlock = some k -> b.ownBlock ≠ some k
theorem PairsO.nil (w : World) (base : Nat) : PairsO w base (.slice none 0 0) [] [] := ⟨World.ownsRow_nil _ _ _ _, rfl, fun _ h => absurd h (Nat.not_lt_zero _), fun i j a b _ h => by simp at h⟩
theorem PairsO.mem {w : World} {base : Nat} {v : Value} {us : List Value} {ps : List S6.Pr} (h : PairsO w base v us ps) {u : Value} (hu : u ∈ us) : ∃ l : List UInt8, w.ownsRow base 5 1 u l.length (l.map byteVal) := by
 obtain ⟨i, hi, rfl⟩ := List.getElem_of_mem hu
 obtain ⟨u, h1, h2⟩ := h.each i (by rw [<- h.len]; exact hi)
 rw [List.getElem?_eq_getElem hi] at h1
 obtain rfl := Option.some.inj h1
 exact ⟨_, h2⟩
theorem PairsO.apart {w : World} {base : Nat} {v : Value} {us : List Value} {ps : List S6.Pr} (h : PairsO w base v us ps) {u : Value} (hu : u ∈ us) {k : Nat} (hk : u.ownBlock = some k) : v.ownBlock ≠ some k := by
 intro e
 obtain ⟨l, ho⟩ := h.mem hu
 obtain ⟨_, _, h1⟩ := own_at ho hk
 obtain ⟨_, _, h2⟩ := own_at h.row e
 rw [h1] at h2
 have h3 : (5 : Nat) = 129 := by injection (Option.some.inj h2)
 exact absurd h3 (by decide)
theorem PairsO.mod {F : Nat -> Prop} {w w' : World} {base : Nat} {v : Value} {us : List Value} {ps : List S6.Pr} (h : PairsO w base v us ps) (hm : Mod F w w') (h1 : ∀ k, v.ownBlock = some k -> ¬ F k) (h2 : ∀ u ∈ us, ∀ k, u.ownBlock = some k -> ¬ F k) : PairsO w' base v us ps :=
 ⟨ownsRow_mod h.row hm h1, h.len, fun i hi => let ⟨u, a, b⟩ := h.each i hi; ⟨u, a, ownsRow_mod b hm (h2 u (List.mem_of_getElem? a))⟩, h.two⟩
theorem PairsO.ext {w w' : World} {base : Nat} {v : Value} {us : List Value} {ps : List S6.Pr} (h : PairsO w base v us ps) (hx : Ext w w') : PairsO w' base v us ps :=
 h.mod (F := fun _ => False) (Mod.of_ext hx) (fun _ _ h => h) (fun _ _ _ _ h => h)
theorem PairsO.lower {w : World} {base base' : Nat} {v : Value} {us : List Value} {ps : List S6.Pr} (h : PairsO w base v us ps) (hb : base' <= base) : PairsO w base' v us ps :=
 ⟨ownsRow_base5 h.row hb, h.len, fun i hi => let ⟨u, a, b⟩ := h.each i hi; ⟨u, a, ownsRow_base5 b hb⟩, h.two⟩
theorem PairsO.push {w1 w3 w4 : World} {base base' : Nat} {v nv u : Value} {us : List Value} {ps : List S6.Pr} {p : S6.Pr} (h : PairsO w1 base v us ps) (hx : Ext w1 w3) (hb : base <= base') (hb' : w1.heap.size <= base')
 (hu : w3.ownsRow base' 5 1 u p.val.length (p.val.map byteVal)) (hown : w4.ownsRow base 129 3 nv (ps.length + 1) (prcs ps us ++ prc p u)) (hg : w3.grownBy w4 v.ownBlock) : PairsO w4 base nv (us ++ [u]) (ps ++ [p]) := by
 have hm : Mod (fun k => v.ownBlock = some k) w3 w4 := Mod.grown hg (fun k e _ => e)
 refine ⟨by rw [List.length_append, prcs_append ps [p] us [u] h.len]; exact hown, by rw [List.length_append, List.length_append, h.len]; rfl, fun i hi => ?_, fun i j a b hij ha hb2 k hk e => ?_⟩
 rw [List.length_append] at hi
 rcases Nat.lt_or_ge i ps.length with h1 | h1
 ·obtain ⟨u', a, c⟩ := h.each i h1
  refine ⟨u', ?_, ?_⟩
  ·rw [List.getElem?_append_left (by rw [h.len]; exact h1)]; exact a
  ·rw [List.getElem_append_left h1]
   exact ownsRow_mod (hx.keptOwn c) hm (fun k hk e => h.apart (List.mem_of_getElem? a) hk e)
 ·obtain rfl : i = ps.length := by simp at hi; omega
  refine ⟨u, ?_, ?_⟩
  ·rw [List.getElem?_append_right (by rw [h.len]; exact Nat.le_refl _), h.len, Nat.sub_self]; rfl
  ·have : (ps ++ [p])[ps.length]'(by simp) = p := by simp
   rw [this]
   refine ownsRow_mod (ownsRow_base5 hu hb) hm (fun k hk e => ?_)
   have h2 := (hu.lt k hk).1
   have h3 := (h.row.lt k e).2
   omega
 ·have hj : j < (us ++ [u]).length := (List.getElem?_eq_some_iff.1 hb2).1
  rw [List.length_append] at hj
  have hi : i < us.length := by simp at hj; omega
  rw [List.getElem?_append_left hi] at ha
  rcases Nat.lt_or_ge j us.length with h1 | h1
  ·rw [List.getElem?_append_left h1] at hb2
   exact h.two i j a b hij ha hb2 k hk e
  ·obtain rfl : j = us.length := by simp at hj; omega
   rw [List.getElem?_append_right (Nat.le_refl _), Nat.sub_self] at hb2
   obtain rfl : u = b := by simpa using hb2
   obtain ⟨l, ho⟩ := h.mem (List.mem_of_getElem? ha)
   have h2 := (ho.lt k hk).2
   have h3 := (hu.lt k e).1
   omega
theorem step_appg {ops : Array Oper} {o : Oper} {a : Act} {K : Act -> World -> Prop} {Q : Exit -> Act -> World -> Prop} {F : Prop} {t e : TypeId} {size bytes : Nat} (E : Elem t e size bytes) (base : Nat) (w : World) (hW : base <= w.heap.size) (hgd : o.guard = none) (s x : Operand) (ho : o.op = .call { callee := .builtin .append, args := #[s, x], argTypes := #[t, t] })
 (v : Value) (n : Nat) (xs : List Value) (hs : a.eval s = v) (hown : w.ownsRow base e size v n xs) (y : Value) (m : Nat) (ys : List Value) (hx : a.eval x = y) (hr : ReadsN size w y m ys) (hb : (n + m) * bytes <= 1000000000000)
 (hn : n + m <= 1000000000000) (h : ∀ v' w', w'.ownsRow base e size v' (n + m) (xs ++ ys) -> w.grownBy w' v.ownBlock -> K (a.put o.dst v') w') : if Region.wanted o (yielded ops a.tmps) = true then Oper.wp Tryz.prog o a w K Q else F := by
 have hw : Region.wanted o (yielded ops a.tmps) = true := by simp [Region.wanted, hgd]
 rw [if_pos hw]
 obtain ⟨i, z, hi, hz, h1, h2, h3⟩ := E.info
 obtain ⟨b, cap, rfl, g1, g2, g3, g4, g5, g6⟩ := hr
 cases b with
 | none =>
  obtain rfl : cap = 0 := g4 rfl
  obtain rfl : m = 0 := by omega
  obtain rfl : ys = [] := List.eq_nil_of_length_eq_zero (by rw [g1, Nat.zero_mul])
  have hrun := run_append_owned_none (P := Tryz.prog) (w := w) base t o.type e i size E.und hi v n xs hown
  unfold Oper.wp
  simp [execOp, ho, resolve, invoke, builtin, hs, hx, hrun, Result.andThen]
  exact h v w (by simpa using hown) (World.grownBy.refl _ _)
 | some ad =>
  refine wp_append_own w s x t ho base e i z size bytes E.und hi hz h1 h2 h3 E.pos v n xs hs hown ad m cap ys hx g1 ?_ g5 (by unfold maxLen; omega) (by omega) hW (fun v' w' h4 h5 _ => h v' w' h4 h5)
  intro j u hj
  rcases g6 with rfl | ⟨b, off, hb, hc⟩
  ·rw [Nat.zero_mul] at g1; rw [List.eq_nil_of_length_eq_zero g1] at hj; cases hj
  ·obtain rfl := Option.some.inj hb
   rw [Addr.add_lit]; exact hc j u hj
namespace S6
def inR (from_ to_ : Key) (p : Pr) : Bool := !decide (p.key < from_) && (decide (to_ = []) || decide (p.key < to_))
def range (l : List Pr) (from_ to_ : Key) : List Pr := l.filter (inR from_ to_)
theorem range_append (a b : List Pr) (f t : Key) : range (a ++ b) f t = range a f t ++ range b f t := List.filter_append ..
theorem range_below {l : List Pr} {f t : Key} (h : ∀ a ∈ l, a.key < f) : range l f t = [] := List.filter_eq_nil_iff.2 (fun a ha => by simp [inR, h a ha])
theorem range_above {l : List Pr} {f t : Key} (ht : t ≠ []) (h : ∀ a ∈ l, ¬ a.key < t) : range l f t = [] := List.filter_eq_nil_iff.2 (fun a ha => by simp [inR, h a ha, ht])
theorem range_pages {x : Idx} (h : IOk x) (f t : Key) : range x.flatten f t = range (x.drop (pageNo x f)).flatten f t := by
 by_cases h0 : x = []
 ·subst h0; simp
 ·obtain ⟨hp, h1, _⟩ := pages_parts h f h0
  have e : x.flatten = (x.take (pageNo x f)).flatten ++ (x.drop (pageNo x f)).flatten := by rw [<- List.flatten_append, List.take_append_drop]
  rw [e, range_append, range_below h1, List.nil_append]
def rngTo (x : Idx) (i : Nat) (pg : List Pr) (j : Nat) (f t : Key) : List Pr := range ((x.take i).flatten ++ pg.take j) f t
theorem rngTo_start (x : Idx) (i : Nat) (pg : List Pr) (f t : Key) : rngTo x i pg 0 f t = rngTo x i [] 0 f t := by unfold rngTo; simp
theorem rngTo_succ (x : Idx) (i : Nat) (pg : List Pr) (j : Nat) (f t : Key) (h : j < pg.length) : rngTo x i pg (j + 1) f t = rngTo x i pg j f t ++ (if inR f t pg[j] = true then [pg[j]] else []) := by
 unfold rngTo
 rw [List.take_succ_eq_append_getElem h, <- List.append_assoc, range_append]
 congr 1
 unfold range
 cases e : inR f t pg[j] with
 | true => rw [List.filter_cons_of_pos e]; simp
 | false => rw [List.filter_cons_of_neg (by simp [e])]; simp
theorem rngTo_next (x : Idx) (i : Nat) (f t : Key) (h : i < x.length) : rngTo x i x[i] x[i].length f t = rngTo x (i + 1) [] 0 f t := by
 unfold rngTo
 rw [List.take_length, List.take_succ_eq_append_getElem h, List.flatten_append]
 simp
theorem rngTo_all (x : Idx) (f t : Key) : rngTo x x.length [] 0 f t = range x.flatten f t := by unfold rngTo; simp
theorem rngTo_zero (x : Idx) (f t : Key) : rngTo x 0 [] 0 f t = [] := by unfold rngTo; simp [range]
theorem rngTo_stop (x : Idx) (hs : Srt x.flatten) (i : Nat) (hi : i < x.length) (j : Nat) (hj : j < x[i].length) (f t : Key) (ht : t ≠ []) (hk : ¬ x[i][j].key < t) : range x.flatten f t = rngTo x i x[i] j f t := by
 have e : x.flatten = ((x.take i).flatten ++ x[i].take j) ++ (x[i].drop j ++ (x.drop (i + 1)).flatten) := by
  have e2 : x[i] = x[i].take j ++ x[i].drop j := (List.take_append_drop j x[i]).symm
  calc x.flatten = (x.take i).flatten ++ (x[i] ++ (x.drop (i + 1)).flatten) := flat_parts x i hi
   _ = (x.take i).flatten ++ ((x[i].take j ++ x[i].drop j) ++ (x.drop (i + 1)).flatten) := by rw [<- e2]
   _ = _ := by simp only [List.append_assoc]
 unfold rngTo
 rw [e] at hs ⊢
 rw [range_append, range_above (l := x[i].drop j ++ (x.drop (i + 1)).flatten) ht, List.append_nil]
 intro a ha hlt
 have h2 := (List.pairwise_append.1 hs).2.1
 rw [List.drop_eq_getElem_cons hj, List.cons_append] at h2 ha
 rcases List.mem_cons.1 ha with rfl | ha
 ·exact hk hlt
 ·exact hk (lt_tr ((List.pairwise_cons.1 h2).1 a ha) hlt)
theorem rngTo_len (x : Idx) (i : Nat) (pg : List Pr) (j : Nat) (f t : Key) : (rngTo x i pg j f t).length <= x.flatten.length + pg.length := by
 unfold rngTo range
 have h0 := List.length_filter_le (inR f t) ((x.take i).flatten ++ pg.take j)
 have h1 : ((x.take i).flatten).length <= x.flatten.length := by
  have h2 : x.flatten = (x.take i).flatten ++ (x.drop i).flatten := by rw [<- List.flatten_append, List.take_append_drop]
  rw [h2, List.length_append]; omega
 rw [List.length_append, List.length_take] at h0
 omega
end S6
theorem IdxIn.drop {w : World} {Y : Nat -> Prop} {x : S6.Idx} {vs : List Value} {y : Value} {k : Nat} (hp : PgsIn w Y vs x) (hr : ReadsN 1 w y (vs.length - k) (vs.drop (k * 1))) (hy : ∀ z, y.ownBlock = some z -> Y z) : IdxIn w Y y (x.drop k) := by
 rw [Nat.mul_one] at hr
 have h2 := hp.drop k
 refine ⟨vs.drop k, hr.to1, h2.1, hy, fun i a b => ?_⟩
 exact h2.2 i _ _ (List.getElem?_eq_getElem a) (List.getElem?_eq_getElem b)
theorem range6_any (w : World) (Y : Nat -> Prop) (q : Nat) (xv : Value) (x : S6.Idx) (f t : List UInt8) (h : IdxIn w Y xv x) (ho : S6.IOk x) (hp : ∀ p ∈ x.flatten, S6.POk S6.lastN p) (hl : x.flatten.length <= 900000) (c0 : w.cell? ⟨q, 0, none⟩ = some xv) :
 Calls Tryz.prog 19 #[.pointer (some ⟨q, 0, none⟩), strV f, strV t] w fun e w' => ∃ v us, e = .returned v /\ PairsO w' w.heap.size v us (S6.range x.flatten f t) /\ Ext w w' := by
 obtain ⟨hil, hil2⟩ := IOk.len ho
 by_cases h0 : x = []
 ·subst h0
  obtain ⟨_, xa, xc, rfl, _⟩ := h.shape
  clear h ho hp hil hil2
  unfold strV
  go_enter Tryz.func19, Tryz.ntmps19
  go_wp2
  go_ret
  exact ⟨_, [], rfl, PairsO.nil _ _, Ext.refl w⟩
 ·obtain ⟨hpn, _, _⟩ := S6.pages_parts ho f h0
  have hsr := S6.range_pages ho f t
  have hP := page_any w Y xv x f h ho (by omega)
  obtain ⟨vs, hrd, hvl, hvX, hpg⟩ := h
  have hPS : PgsIn w Y vs x := ⟨hvl, fun i ps v h1 h2 => by
   obtain ⟨g1, rfl⟩ := List.getElem?_eq_some_iff.1 h1
   obtain ⟨g2, rfl⟩ := List.getElem?_eq_some_iff.1 h2
   exact hpg i g1 g2⟩
  have hPN : ∀ W, Ext w W -> Calls Tryz.prog 55 #[xv, strV f] W fun e w' => e = .returned (.int .i64 (S6.pageNo x f : Nat)) /\ Ext W w' := fun W hW => page_any W Y xv x f (IdxIn.ext ⟨vs, hrd, hvl, hvX, hpg⟩ hW) ho (by omega)
  have hRN := hrd.toN
  rw [hvl] at hRN
  obtain ⟨xb, xo, xc, rfl, hxc⟩ : ∃ xb xo xc, xv = .slice (some ⟨xb, xo, none⟩) x.length xc /\ x.length <= xc := by
   obtain ⟨a, cap, hv, _, g1, _, _, _, g2⟩ := id hRN
   rcases g2 with g2 | ⟨b, off, rfl, _⟩
   ·omega
   ·exact ⟨b, off, cap, hv, g1⟩
  have hx0 : ¬ x.length = 0 := fun e => h0 (List.eq_nil_of_length_eq_zero e)
  have hne : ((x.length : Int) == 0) = false := by rw [beq_eq_false_iff_ne]; omega
  have hdl : (x.drop (S6.pageNo x f)).length = x.length - S6.pageNo x f := List.length_drop
  have HDS : Hid (S6.Srt (x.drop (S6.pageNo x f)).flatten) := by
   have hs := ho.srt
   have e : x.flatten = (x.take (S6.pageNo x f)).flatten ++ (x.drop (S6.pageNo x f)).flatten := by rw [<- List.flatten_append, List.take_append_drop]
   rw [e] at hs
   exact (List.pairwise_append.1 hs).2.1
  have HDP : Hid (∀ p ∈ (x.drop (S6.pageNo x f)).flatten, S6.POk S6.lastN p) := fun p hpm => hp p (by
   have e : x.flatten = (x.take (S6.pageNo x f)).flatten ++ (x.drop (S6.pageNo x f)).flatten := by rw [<- List.flatten_append, List.take_append_drop]
   rw [e]; exact List.mem_append_right _ hpm)
  have HDL : Hid (∀ p ∈ x.drop (S6.pageNo x f), p.length <= 900000) := fun p hpm => by have := hil2 p (List.mem_of_mem_drop hpm); omega
  have hdfl : (x.drop (S6.pageNo x f)).flatten.length <= 900000 := by
   have e : x.flatten = (x.take (S6.pageNo x f)).flatten ++ (x.drop (S6.pageNo x f)).flatten := by rw [<- List.flatten_append, List.take_append_drop]
   rw [e, List.length_append] at hl; omega
  have HX := qh hvX
  have HPS := qh hPS
  have HRN := qh (hRN.drop (S6.pageNo x f) (by omega))
  have HPN := qh hPN
  rw [hsr]
  have hkeep : ∀ v, Ext w v -> (Ext w v /\ v.cell? ⟨q, 0, none⟩ = some (.slice (some ⟨xb, xo, none⟩) x.length xc)) := fun v hv => ⟨hv, hv.cell c0⟩
  have HXB : Hid (Y xb) := hvX xb rfl
  clear hrd hpg hPS hRN hPN hvX ho hp hP hil2 hsr
  rw [Nat.mul_one] at HRN
  have HVL := qh hvl
  generalize hxd : x.drop (S6.pageNo x f) = xd at *
  generalize S6.pageNo x f = pn at *
  have HXD := qh hxd
  have hpni : (pn : Int) <= (x.length : Int) := by omega
  have hxcp : ¬ xc = pn := by omega
  have hxcq : ¬ pn = xc := by omega
  have hxli : (x.length : Int) <= 900000 := by omega
  have hxdl : xd.length <= 900000 := by omega
  clear hxd hvl
  unfold strV at HPN ⊢
  go_enter Tryz.func19, Tryz.ntmps19
  go_upto_region 4 with fail
  go_region_held3 (fun v => Ext w v /\ v.cell? ⟨q, 0, none⟩ = some (.slice (some ⟨xb, xo, none⟩) x.length xc)) ((refine hkeep _ ?_; repeat (first | assumption | exact Ext.refl _ | refine Ext.alloc ?_ _ | refine Ext.drew ?_ | refine Ext.trans ?_ (by assumption)))) (first
   | (go_at_call 55; refine (HPN.out _ (by repeat (first | assumption | exact Ext.refl _ | refine Ext.alloc ?_ _ | refine Ext.drew ?_ | refine Ext.trans ?_ (by assumption)))).mono ?_; rintro e w2 ⟨rfl, hx2⟩))
  have HX2 := qh ((Ext.of_drew w).trans hx2)
  have HI2 : Hid (IdxIn w Y (.slice (some ⟨xb, xo + pn, none⟩) (x.length - pn) (xc - pn)) xd) := by
   rw [<- HXD.out]
   exact IdxIn.drop HPS.out (by rw [HVL.out, Nat.mul_one]; exact HRN.out) (fun z hz => by
    have : xb = z := by simpa [Value.ownBlock] using hz
    subst this; exact HXB.out)
  rw [<- hdl] at HI2
  have hdlr : x.length - pn = xd.length := hdl.symm
  clear hx2 HPS HRN HPN hkeep c0 hdl
  rw [hdlr]
  obtain ⟨_, ya, yc, hyv, _, hcell⟩ := HI2.out.shape
  obtain ⟨rfl, _, rfl⟩ := Value.slice.inj hyv
  have HC := qh hcell
  have hxdi : (xd.length : Int) <= 900000 := by omega
  clear hcell hyv hdlr HI2
  go_wp2_with fail
  go_loopw [7, 33] (fun ov iv wr => ∃ (i : Nat) (us : List Value), i <= xd.length /\ iv = .int .i64 (i : Int) /\ Hid (PairsO wr w.heap.size ov us (S6.rngTo xd i [] 0 f t)) /\ Hid (Ext w wr)) (fun _ iv _ => xd.length - (intOf iv).toNat)
  case atStart => exact ⟨0, [], by omega, rfl, by rw [S6.rngTo_zero]; exact PairsO.nil _ _, HX2.out⟩
  case round =>
   obtain ⟨i, us, hi, rfl, hR, hX⟩ := hrel
   by_cases hlt : i < xd.length
   ·have hlti : (i : Int) < (xd.length : Int) := by omega
    obtain ⟨b, off, u, hyb, -, g0, hpg⟩ := HC.out i hlt
    obtain ⟨_, pa, pc, rfl, hpc, hq⟩ := hpg.shape
    have hyb2 : (⟨xb, xo + pn, none⟩ : Addr) = ⟨b, off, none⟩ := Option.some.inj hyb
    injection hyb2 with e1 e2 e3
    subst e1
    rw [<- e2] at g0
    have g0' := hX.out.cell g0
    have hpl := HDL.out _ (List.getElem_mem hlt)
    have HQ := qh hq
    have HN := qh (S6.rngTo_next xd i f t hlt)
    have HPM := qh (show ∀ p ∈ xd[i], S6.POk S6.lastN p from fun p hp => HDP.out p (List.mem_flatten.2 ⟨_, List.getElem_mem hlt, hp⟩))
    have HST := qh (fun j hj => S6.rngTo_stop xd HDS.out i hlt j hj f t)
    rw [<- S6.rngTo_start xd i xd[i]] at hR
    clear g0 hpg hq hyb e2 e3
    generalize xd[i] = pg at *
    have hpli : (pg.length : Int) <= 900000 := by omega
    go_wp2_with fail
    go_loopw [7, 39] (fun ov jv wr2 => ∃ (j : Nat) (us : List Value), j <= pg.length /\ jv = .int .i64 (j : Int) /\ Hid (PairsO wr2 w.heap.size ov us (S6.rngTo xd i pg j f t)) /\ Hid (Ext w wr2)) (fun _ jv _ => pg.length - (intOf jv).toNat)
    case atStart => exact ⟨0, _, by omega, rfl, hR, hX⟩
    case round =>
     obtain ⟨j, us2, hj, rfl, hR2, hX2⟩ := hrel
     clear hR hX g0'
     by_cases hlt2 : j < pg.length
     ·have hlt2i : (j : Int) < (pg.length : Int) := by omega
      obtain ⟨b3, o3, u3, rfl, -, c0, c1, c2, hbu, -⟩ := HQ.out j hlt2
      have hpo := HPM.out _ (List.getElem_mem hlt2)
      have HS := qh (S6.rngTo_succ xd i pg j f t hlt2)
      have HSTj := qh (HST.out j hlt2)
      have hil9 := S6.rngTo_len xd i pg j f t
      replace c0 := hX2.out.cell c0
      replace c1 := hX2.out.cell c1
      replace c2 := hX2.out.cell c2
      replace hbu := hbu.ext hX2.out
      generalize pg[j] = p at *
      have hv := hpo.val
      obtain ⟨ua, uc, rfl⟩ := hbu.shape
      unfold strV at c0
      obtain ⟨W3, hW3⟩ : ∃ W3, W3 = wr.alloc (.cells #[.string ⟨p.key.toArray⟩, .slice ua p.val.length uc, .int .u64 (p.ver : Int)] 129) := ⟨_, rfl⟩
      have hx3 : Ext wr W3 := by rw [hW3]; exact Ext.of_alloc _ _
      have t0 : W3.cell? ⟨wr.heap.size, 0, none⟩ = some (.string ⟨p.key.toArray⟩) := by rw [hW3, World.cell?_alloc_at _ _ _ _ rfl]; rfl
      have t1 : W3.cell? ⟨wr.heap.size, 1, none⟩ = some (.slice ua p.val.length uc) := by rw [hW3, World.cell?_alloc_at _ _ _ _ rfl]; rfl
      have t2 : W3.cell? ⟨wr.heap.size, 2, none⟩ = some (.int .u64 (p.ver : Int)) := by rw [hW3, World.cell?_alloc_at _ _ _ _ rfl]; rfl
      have hR3 := qh (hR2.out.ext hx3)
      have hX3 := qh (hX2.out.trans hx3)
      have HBU := qh (hbu.ext hx3)
      go_upto_region 10 with fail
      rw [<- hW3]
      have hnp : ∀ z, u7.ownBlock = some z -> ¬ z = wr.heap.size := fun z hz => by have := (hR2.out.row.lt z hz).2; omega
      clear hW3 hR2 hX2 hbu hpo c0 c1 c2
      generalize wr.heap.size = pp at *
      have hbt := bytesLess_eq p.key t
      have hbf := bytesLess_eq p.key f
      by_cases hstop : ¬ t = [] /\ ¬ p.key < t
      ·have hrs := HSTj.out hstop.1 hstop.2
       have HRS := qh hrs
       have htne : (t == ([] : List UInt8)) = false := by rw [beq_eq_false_iff_ne]; exact hstop.1
       have htne2 : (t != ([] : List UInt8)) = true := by rw [bne_iff_ne]; exact hstop.1
       rw [decide_eq_false hstop.2] at hbt
       clear hrs hbf
       go_wp2
       go_ret
       exact ⟨_, _, rfl, by rw [HRS.out]; exact hR3.out, hX3.out⟩
      ·have hin : S6.inR f t p = !decide (p.key < f) := by
        unfold S6.inR
        by_cases ht : t = []
        ·simp [ht]
        ·have hkt : p.key < t := Classical.byContradiction (fun h => hstop ⟨ht, h⟩)
         simp [hkt]
       rw [hin] at HS
       have hkeep3 : ∀ v, Ext W3 v -> (v.cell? ⟨pp, 0, none⟩ = some (.string ⟨p.key.toArray⟩) /\ v.cell? ⟨pp, 1, none⟩ = some (.slice ua p.val.length uc) /\ v.cell? ⟨pp, 2, none⟩ = some (.int .u64 (p.ver : Int))) := fun v hv => ⟨hv.cell t0, hv.cell t1, hv.cell t2⟩
       have hcl : ∀ v, Ext W3 v -> Calls Tryz.prog 56 #[.slice ua p.val.length uc] v fun e w' => MadeB v w' p.val e := fun v hv => clone_any _ p.val v (Bs.ext HBU.out hv) (by omega)
       have hrow := hR3.out.row
       have hbase : w.heap.size <= W3.heap.size := hX3.out.size
       have HKP := qh hkeep3
       have HCL := qh hcl
       have HSO : Hid (¬ (¬ t = [] /\ ¬ p.key < t)) := hstop
       clear HSTj hin hkeep3 hcl hstop
       by_cases ht : t = []
       ·have htn : (t == ([] : List UInt8)) = true := by rw [beq_iff_eq]; exact ht
        have htn2 : (t != ([] : List UInt8)) = false := by simp [ht]
        clear ht
        by_cases hf : p.key < f
        ·rw [decide_eq_true hf] at hbf HS
         rw [if_neg (by simp), List.append_nil] at HS
         rw [<- HS.out] at hR3
         clear hrow hbt
         go_wp2
         exact ⟨⟨j + 1, _, by omega, by go_num, hR3, hX3⟩, by simp [intOf]; omega⟩
        ·rw [decide_eq_false hf] at hbf HS
         rw [if_pos (by simp)] at HS
         clear hbt
         go_upto_region 13 with fail
         go_region_held3 (fun v => v.cell? ⟨pp, 0, none⟩ = some (.string ⟨p.key.toArray⟩) /\ v.cell? ⟨pp, 1, none⟩ = some (.slice ua p.val.length uc) /\ v.cell? ⟨pp, 2, none⟩ = some (.int .u64 (p.ver : Int))) (first | exact ⟨z0, z1, z2⟩ | exact HKP.out _ (by repeat (first | assumption | exact Ext.refl _ | refine Ext.alloc ?_ _ | refine Ext.drew ?_ | refine Ext.trans ?_ (by assumption)))) (first
          | (go_at_call 56; refine (HCL.out _ (by repeat (first | assumption | exact Ext.refl _ | refine Ext.alloc ?_ _ | refine Ext.drew ?_ | refine Ext.trans ?_ (by assumption)))).mono ?_; rintro e w8 ⟨v8, rfl, hown8, hx8⟩; obtain ⟨a8, c8, rfl⟩ := (Bs.of_own hown8).shape)
          | (refine step_appg el_pair w.heap.size (w8.alloc (.cells #[.string ⟨p.key.toArray⟩, .slice a8 p.val.length c8, .int .u64 (p.ver : Int)] 129)) (Nat.le_trans hbase (((Ext.of_drew W3).trans hx8).trans (Ext.of_alloc _ _)).size) rfl _ _ rfl u7 (S6.rngTo xd i pg j f t).length (prcs (S6.rngTo xd i pg j f t) us2) rfl ((((Ext.of_drew W3).trans hx8).trans (Ext.of_alloc _ _)).keptOwn hrow) (.slice (some ⟨w8.heap.size, 0, none⟩) 1 1) 1 _ rfl (ReadsN.row 3 w8 [.string ⟨p.key.toArray⟩, .slice a8 p.val.length c8, .int .u64 (p.ver : Int)] 129 1 rfl (by unfold maxLen; omega) (by simp [Value.oneCell'])) (by omega) (by omega) ?_; intro v9 w9 hown9 hg9; have hxa := ((Ext.of_drew W3).trans hx8).trans (Ext.of_alloc w8 (.cells #[.string ⟨p.key.toArray⟩, .slice a8 p.val.length c8, .int .u64 (p.ver : Int)] 129)); have hm9 : Mod (fun z => u7.ownBlock = some z) _ w9 := Mod.grown hg9 (fun z e _ => e); have z0 := hm9.cell (hxa.cell t0) (fun e => hnp _ e rfl); have z1 := hm9.cell (hxa.cell t1) (fun e => hnp _ e rfl); have z2 := hm9.cell (hxa.cell t2) (fun e => hnp _ e rfl)))
         have hpush := hR3.out.push (p := p) hxa hbase (Nat.le_refl _) ((Ext.of_alloc w8 _).keptOwn (ownsRow_base5 hown8 (Ext.of_drew W3).size)) hown9 hg9
         rw [<- HS.out] at hpush
         have hx9 : Ext w w9 := (hX3.out.trans hxa).grown hg9 (fun z hz => (hrow.lt z hz).1)
         have HPU := qh hpush
         have HX9 := qh hx9
         clear hpush hx9 hown9 hg9 hown8 hx8 hxa hrow hm9 z0 z1 z2
         go_wp2
         exact ⟨⟨j + 1, _, by omega, by go_num, HPU, HX9⟩, by simp [intOf]; omega⟩
       ·have htne : (t == ([] : List UInt8)) = false := by rw [beq_eq_false_iff_ne]; exact ht
        have htne2 : (t != ([] : List UInt8)) = true := by rw [bne_iff_ne]; exact ht
        have hkt : p.key < t := Classical.byContradiction (fun h => HSO.out ⟨ht, h⟩)
        rw [decide_eq_true hkt] at hbt
        by_cases hf : p.key < f
        ·rw [decide_eq_true hf] at hbf HS
         rw [if_neg (by simp), List.append_nil] at HS
         rw [<- HS.out] at hR3
         clear hrow
         go_wp2
         exact ⟨⟨j + 1, _, by omega, by go_num, hR3, hX3⟩, by simp [intOf]; omega⟩
        ·rw [decide_eq_false hf] at hbf HS
         rw [if_pos (by simp)] at HS
         go_upto_region 13 with fail
         go_region_held3 (fun v => v.cell? ⟨pp, 0, none⟩ = some (.string ⟨p.key.toArray⟩) /\ v.cell? ⟨pp, 1, none⟩ = some (.slice ua p.val.length uc) /\ v.cell? ⟨pp, 2, none⟩ = some (.int .u64 (p.ver : Int))) (first | exact ⟨z0, z1, z2⟩ | exact HKP.out _ (by repeat (first | assumption | exact Ext.refl _ | refine Ext.alloc ?_ _ | refine Ext.drew ?_ | refine Ext.trans ?_ (by assumption)))) (first
          | (go_at_call 56; refine (HCL.out _ (by repeat (first | assumption | exact Ext.refl _ | refine Ext.alloc ?_ _ | refine Ext.drew ?_ | refine Ext.trans ?_ (by assumption)))).mono ?_; rintro e w8 ⟨v8, rfl, hown8, hx8⟩; obtain ⟨a8, c8, rfl⟩ := (Bs.of_own hown8).shape)
          | (refine step_appg el_pair w.heap.size (w8.alloc (.cells #[.string ⟨p.key.toArray⟩, .slice a8 p.val.length c8, .int .u64 (p.ver : Int)] 129)) (Nat.le_trans hbase (((Ext.of_drew W3).trans hx8).trans (Ext.of_alloc _ _)).size) rfl _ _ rfl u7 (S6.rngTo xd i pg j f t).length (prcs (S6.rngTo xd i pg j f t) us2) rfl ((((Ext.of_drew W3).trans hx8).trans (Ext.of_alloc _ _)).keptOwn hrow) (.slice (some ⟨w8.heap.size, 0, none⟩) 1 1) 1 _ rfl (ReadsN.row 3 w8 [.string ⟨p.key.toArray⟩, .slice a8 p.val.length c8, .int .u64 (p.ver : Int)] 129 1 rfl (by unfold maxLen; omega) (by simp [Value.oneCell'])) (by omega) (by omega) ?_; intro v9 w9 hown9 hg9; have hxa := ((Ext.of_drew W3).trans hx8).trans (Ext.of_alloc w8 (.cells #[.string ⟨p.key.toArray⟩, .slice a8 p.val.length c8, .int .u64 (p.ver : Int)] 129)); have hm9 : Mod (fun z => u7.ownBlock = some z) _ w9 := Mod.grown hg9 (fun z e _ => e); have z0 := hm9.cell (hxa.cell t0) (fun e => hnp _ e rfl); have z1 := hm9.cell (hxa.cell t1) (fun e => hnp _ e rfl); have z2 := hm9.cell (hxa.cell t2) (fun e => hnp _ e rfl)))
         have hpush := hR3.out.push (p := p) hxa hbase (Nat.le_refl _) ((Ext.of_alloc w8 _).keptOwn (ownsRow_base5 hown8 (Ext.of_drew W3).size)) hown9 hg9
         rw [<- HS.out] at hpush
         have hx9 : Ext w w9 := (hX3.out.trans hxa).grown hg9 (fun z hz => (hrow.lt z hz).1)
         have HPU := qh hpush
         have HX9 := qh hx9
         clear hpush hx9 hown9 hg9 hown8 hx8 hxa hrow hm9 z0 z1 z2
         go_wp2
         exact ⟨⟨j + 1, _, by omega, by go_num, HPU, HX9⟩, by simp [intOf]; omega⟩
     ·obtain rfl : j = pg.length := by omega
      rw [HN.out] at hR2
      go_wp2
      exact ⟨⟨i + 1, _, by omega, by go_num, hR2, hX2⟩, by simp [intOf]; omega⟩
   ·obtain rfl : i = xd.length := by omega
    rw [S6.rngTo_all] at hR
    go_wp2
    go_ret
    exact ⟨_, _, rfl, hR.out, hX.out⟩
end Go.Proofs.YtnjfioikpajhlaaGreat
