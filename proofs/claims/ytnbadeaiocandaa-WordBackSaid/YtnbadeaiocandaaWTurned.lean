/- The walk of jetwaylaw01.WordTurned: bytes of which one was turned have another check sum. -/
import Derived.Test.YtnbadeaiocandaaAwake
import Derived.Test.YtnbadeaiocandaaLong
namespace Go.Proofs.Ytnbadeaiocandaa
open Go.RowKit

theorem sum_one (v : Value) (l : List UInt8) (w : World) (h : Bs w v l) (c : v.oneCell' = true) :
    Calls Try.prog 16 #[.slice (some ⟨w.heap.size, 0, none⟩) 1 1] (w.alloc (.cells #[v] 22)) fun e w' => e = .returned (.int .u32 (S.sum l : Int)) ∧ w.alloc (.cells #[v] 22) = w' := by
  have h2 := sum_any (.slice (some ⟨w.heap.size, 0, none⟩) 1 1) [l] (w.alloc (.cells #[v] 22)) (Rows2.one (Reads.one w v 22 c) (h.ext (Ext.of_alloc _ _)))
  simpa using h2

/-- 'append([]byte{}, b...)': a copy of the bytes. -/
theorem own_empty (w : World) (base : Nat) (e : TypeId) (hb : base ≤ w.heap.size) : (w.alloc (.cells #[] e)).ownsRow base e 1 (.slice (some ⟨w.heap.size, 0, none⟩) 0 0) 0 [] :=
  World.ownsRow_made w #[] 0 hb (by simp [maxLen]) rfl

theorem Ext.setCell {a w : World} (h : Ext a w) {p : Addr} (hp : a.heap.size ≤ p.block) (u : Value) : Ext a (w.setCell p u) := Below.setCell (B := a.heap.size) h hp u

/-- 'append(v, x...)' once more, its length by a name of its own, what is owned as bytes. -/
theorem wpl_append_b {ops : Array Oper} {rest : List Oper} {o : Oper} {a : Act} {Q : Exit → Act → World → Prop} (w : World) (hgd : o.guard = none) (s x : Operand)
    (ho : o.op = .call { callee := .builtin .append, args := #[s, x], argTypes := #[22, 22] })
    (base : Nat) (v : Value) (xs : List UInt8) (hs : a.eval s = v) (hown : w.ownsRow base 5 1 v xs.length (xs.map byteVal))
    (y : Value) (ys : List UInt8) (hx : a.eval x = y) (hr : Bs w y ys) (zs : List UInt8) (hzs : xs ++ ys = zs)
    (h63 : zs.length ≤ 140737488355328) (hbase : base ≤ w.heap.size)
    (h : ∀ v' w', w'.ownsRow base 5 1 v' zs.length (zs.map byteVal) → w.grownBy w' v.ownBlock → wpList Try.prog ops Q rest (a.put o.dst v') w') : wpList Try.prog ops Q (o :: rest) a w := by
  obtain ⟨i0, hi, hz0, hz1, hz2⟩ := info_parts info_u8
  subst hzs
  refine wpl_append w hgd s x 22 ho base 5 i0 (.int .u8 0) 1 Try.underlying22 hi hz0 hz1 hz2 rfl v xs.length (xs.map byteVal) hs hown y (ys.map byteVal) hx hr.reads ?_ ?_ hbase ?_
  · unfold maxLen; simp at h63 ⊢; omega
  · simp at h63 ⊢; omega
  · intro v' w' h1 h2
    refine h v' w' ?_ h2
    rw [List.map_append, List.length_append]
    simpa using h1

set_option maxRecDepth 100000 in
set_option maxHeartbeats 1600000 in
theorem wordTurned_core (v0 : Value) (l : List UInt8) (i : Nat) (y : UInt8) (w : World) (h0 : Bs w v0 l) (hl : l.length ≤ 20000) (hi : i < l.length) :
    Calls Try.prog 7 #[v0, .int .i64 (i : Int), .int .u8 (y.toNat : Int)] w fun e w' => e = .returned (.bool true) ∧ Ext w w' := by
  obtain ⟨i0, hi0, hz0, hz1, hz2⟩ := info_parts info_u8
  have hb0 := Lib.hid h0
  obtain ⟨a, cap, rfl⟩ := h0.shape
  clear h0
  have hii : (i : Int) < (l.length : Int) := by omega
  go_enter Try.func7, Try.ntmps7
  go_wp2_with fail
  refine (awake w).mono ?_
  rintro e w1 ⟨rfl, hx1⟩
  have HX1 := Lib.hid hx1
  clear hx1
  go_wp2_with fail
  refine (long_any _ l w1 (hb0.out.ext HX1.out)).mono ?_
  rintro e w2 ⟨rfl, rfl⟩
  have hd : decide (20000 < l.length) = false := by simp; omega
  rw [hd]
  clear hd
  have hown0 := Lib.hid (own_empty w1 w1.heap.size 5 (Nat.le_refl _))
  have hb1 := Lib.hid ((hb0.out.ext HX1.out).ext (Ext.of_alloc w1 (.cells #[] 5)))
  go_wp2_with (at_builtin; refine wpl_append_b _ rfl _ _ rfl w1.heap.size _ [] (by rfl) hown0.out _ _ (by rfl) hb1.out l rfl (by omega) (by simp) ?_; intro v' w2 hown hgrow; obtain ⟨g, cp, rfl, hg, hg2, hcp, hcm, hcell⟩ := own_open hown (by omega); have hci : w2.cell? ⟨g, i, none⟩ = some (.int .u8 (l[i].toNat : Int)) := by { rw [hcell i hi, List.getElem?_map, List.getElem?_eq_getElem hi]; rfl }; have hfi := hown.frozenAt i; have hiw : i < l.length := hi; clear hcell)
  have hu : Value.int .u8 (bits BinOp.xor IntKind.u8 (l[i].toNat : Int) (y.toNat : Int)) = byteVal (l[i] ^^^ y) := by
    unfold byteVal
    rw [u8_xor_nat _ _ l[i].toNat_lt y.toNat_lt, UInt8.toNat_xor]
  rw [hu]
  clear hu
  have hx2 : Ext w1 w2 := (Ext.of_alloc w1 _).grown hgrow (by intro k hk; simp [Value.ownBlock] at hk; omega)
  have HX3 := Lib.hid (hx2.setCell (p := ⟨g, i, none⟩) hg (byteVal (l[i] ^^^ y)))
  have hst := (hown.stored i (byteVal (l[i] ^^^ y))).1
  rw [← List.map_set] at hst
  have hB3 : Bs (w2.setCell ⟨g, i, none⟩ (byteVal (l[i] ^^^ y))) (.slice (some ⟨g, 0, none⟩) l.length cp) (l.set i (l[i] ^^^ y)) := Bs.of_own hst
  have HB3 := Lib.hid hB3
  clear hB3 hst hown hgrow hci hfi hown0 hb1 hx2 hg hg2
  have hsz : (w2.setCell ⟨g, i, none⟩ (byteVal (l[i] ^^^ y))).heap.size = w2.heap.size := by simp
  generalize w2.setCell ⟨g, i, none⟩ (byteVal (l[i] ^^^ y)) = w3 at *
  rw [← hsz]
  clear hsz
  refine (sum_one _ (l.set i (l[i] ^^^ y)) _ HB3.out rfl).mono ?_
  rintro e w4 ⟨rfl, rfl⟩
  go_wp2_with fail
  have hb4 := ((hb0.out.ext HX1.out).ext HX3.out).ext (Ext.of_alloc w3 (.cells #[.slice (some ⟨g, 0, none⟩) l.length cp] 22))
  have hs4 := sum_one _ l _ hb4 rfl
  simp only [World.size_alloc] at hs4
  refine hs4.mono ?_
  rintro e w4 ⟨rfl, rfl⟩
  clear hs4 hb4
  have hsum := S.sum_set l i hi (l[i] ^^^ y)
  have hxor : (l[i] ^^^ y = l[i]) ↔ y = 0 := by
    constructor
    · intro h
      have : l[i] ^^^ (l[i] ^^^ y) = l[i] ^^^ l[i] := by rw [h]
      rwa [← UInt8.xor_assoc, UInt8.xor_self, UInt8.zero_xor] at this
    · rintro rfl; simp
  have hfin := hsum.trans hxor
  clear hsum hxor
  by_cases hy : y = 0
  · have e1 := hfin.2 hy
    rw [e1, hy]
    clear hfin e1 hy
    go_wp2
    go_ret
    exact ⟨rfl, HX1.out.trans ((HX3.out.alloc _).alloc _)⟩
  · have e1 : ((S.sum (l.set i (l[i] ^^^ y)) : Int) == (S.sum l : Int)) = false := by
      have h : ¬ S.sum (l.set i (l[i] ^^^ y)) = S.sum l := fun h => hy (hfin.1 h)
      exact beq_eq_false_iff_ne.2 (fun e => h (Int.ofNat_inj.1 e))
    have e2 : ((y.toNat : Int) == 0) = false := by
      have h : ¬ y.toNat = 0 := fun h => hy (UInt8.toNat_inj.1 (by rw [h]; rfl))
      simp; omega
    clear hfin
    go_wp2
    go_ret
    exact ⟨rfl, HX1.out.trans ((HX3.out.alloc _).alloc _)⟩

set_option maxRecDepth 100000 in
set_option maxHeartbeats 800000 in
theorem wordTurned_easy (v0 : Value) (l : List UInt8) (i y : Int) (w : World) (h0 : Bs w v0 l) (hl : 20000 < l.length ∨ i < 0 ∨ (l.length : Int) ≤ i) :
    Calls Try.prog 7 #[v0, .int .i64 i, .int .u8 y] w fun e w' => e = .returned (.bool true) ∧ Ext w w' := by
  have hb0 := Lib.hid h0
  obtain ⟨a, cap, rfl⟩ := h0.shape
  clear h0
  by_cases h1 : 20000 < l.length
  · clear hl
    have hd : decide (20000 < l.length) = true := by simp; omega
    go_enter Try.func7, Try.ntmps7
    go_wp2_with fail
    refine (awake w).mono ?_
    rintro e w1 ⟨rfl, hx1⟩
    have HX1 := Lib.hid hx1
    clear hx1
    go_wp2_with fail
    refine (long_any _ l w1 (hb0.out.ext HX1.out)).mono ?_
    rintro e w2 ⟨rfl, rfl⟩
    rw [hd]
    go_wp2
    go_ret
    exact ⟨rfl, HX1.out⟩
  · have hd : decide (20000 < l.length) = false := by simp; omega
    by_cases h2 : i < 0
    · clear hl
      go_enter Try.func7, Try.ntmps7
      go_wp2_with fail
      refine (awake w).mono ?_
      rintro e w1 ⟨rfl, hx1⟩
      have HX1 := Lib.hid hx1
      clear hx1
      go_wp2_with fail
      refine (long_any _ l w1 (hb0.out.ext HX1.out)).mono ?_
      rintro e w2 ⟨rfl, rfl⟩
      rw [hd]
      go_wp2
      go_ret
      exact ⟨rfl, HX1.out⟩
    · have h3 : (l.length : Int) ≤ i := by omega
      clear hl
      go_enter Try.func7, Try.ntmps7
      go_wp2_with fail
      refine (awake w).mono ?_
      rintro e w1 ⟨rfl, hx1⟩
      have HX1 := Lib.hid hx1
      clear hx1
      go_wp2_with fail
      refine (long_any _ l w1 (hb0.out.ext HX1.out)).mono ?_
      rintro e w2 ⟨rfl, rfl⟩
      rw [hd]
      go_wp2
      go_ret
      exact ⟨rfl, HX1.out⟩

theorem walk_wordTurned (v0 : Value) (l : List UInt8) (i y : Int) (w : World) (h0 : Bs w v0 l) (h1 : (Lit.int .i64 i).wf = true) (h2 : (Lit.int .u8 y).wf = true) :
    Calls Try.prog 7 #[v0, .int .i64 i, .int .u8 y] w fun e w' => e = .returned (.bool true) ∧ Ext w w' := by
  by_cases hl : 20000 < l.length ∨ i < 0 ∨ (l.length : Int) ≤ i
  · exact wordTurned_easy v0 l i y w h0 hl
  · obtain ⟨k, rfl⟩ := Int.eq_ofNat_of_zero_le (show 0 ≤ i by omega)
    have hy := wf_u8 h2
    have e : y = ((UInt8.ofNat y.toNat).toNat : Int) := by simp; omega
    rw [e]
    exact wordTurned_core v0 l k _ w h0 (by omega) (by omega)
end Go.Proofs.Ytnbadeaiocandaa
