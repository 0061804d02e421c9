/- The walk of jetwaylaw01.WordPuts: numbers are laid as bytes, and read at a place, just as the document says. -/
import Derived.Test.YtnbadeaiocandaaAwake
import Derived.Test.YtnbadeaiocandaaLong
import Derived.Test.YtnbadeaiocandaaGet
import Derived.Test.YtnbadeaiocandaaWVars
import Derived.Test.YtnbadeaiocandaaWTurned
namespace Go.Proofs.Ytnbadeaiocandaa
open Go.RowKit

theorem refGet_l (l : List UInt8) (at_ size : Int) (w : World) (hl : l.length ≤ 9223372036854775807) (hat : at_ ≤ 9223372036854775807) :
    Calls Try.prog 23 #[.string ⟨l.toArray⟩, .int .i64 at_, .int .i64 size] w fun e w' => e = .returned (.tuple #[.int .u64 ((W.get l at_ size).1 : Int), .int .i64 ((W.get l at_ size).2 : Int)]) ∧ w = w' := by
  have h := refGet ⟨l.toArray⟩ at_ size w (by simpa [ByteArray.size] using hl) hat
  simpa using h

theorem own_shape {w : World} {base : Nat} {e : TypeId} {v : Value} {n : Nat} {xs : List Value} (h : w.ownsRow base e 1 v n xs) :
    (∃ a cap, v = .slice a 0 cap ∧ n = 0) ∨ ∃ g cap, v = .slice (some ⟨g, 0, none⟩) n cap ∧ 0 < n ∧ base ≤ g := by
  by_cases hn : n = 0
  · subst hn
    obtain ⟨_, h2⟩ := h
    rcases h2 with ⟨hv, _⟩ | ⟨g, cap, cur, hv, _⟩
    · exact .inl ⟨_, _, hv, rfl⟩
    · exact .inl ⟨_, _, hv, rfl⟩
  · obtain ⟨g, cap, hv, hg, _⟩ := own_open h (by omega)
    exact .inr ⟨g, cap, hv, by omega, hg⟩

set_option maxRecDepth 100000 in
set_option maxHeartbeats 3200000 in
theorem wordPuts_core (v0 : Value) (l : List UInt8) (n : Nat) (at_ size : Int) (w : World) (h0 : Bs w v0 l) (hl : l.length ≤ 20000) (hn : n < 18446744073709551616)
    (hs1 : -9223372036854775808 ≤ size) (hs2 : size ≤ 9223372036854775807) (ha2 : at_ ≤ 9223372036854775807) :
    Calls Try.prog 9 #[v0, .int .u64 (n : Int), .int .i64 at_, .int .i64 size] w fun e w' => e = .returned (.bool true) ∧ Ext w w' := by
  have hb0 := Lib.hid h0
  obtain ⟨a, cap, rfl⟩ := h0.shape
  clear h0
  go_enter Try.func9, Try.ntmps9
  go_wp2_with fail
  refine (awake w).mono ?_
  rintro e w1 ⟨rfl, hx1⟩
  have HX1 := Lib.hid hx1
  clear hx1
  go_wp2_with fail
  refine (long_any _ l w1 (hb0.out.ext HX1.out)).mono ?_
  rintro e w2 ⟨rfl, rfl⟩
  have hd : decide (20000 < l.length) = false := by simp; omega
  rw [hd]
  clear hd
  have hown0 := Lib.hid (own_empty w1 w1.heap.size 5 (Nat.le_refl _))
  have hb1 := Lib.hid ((hb0.out.ext HX1.out).ext (Ext.of_alloc w1 (.cells #[] 5)))
  go_wp2_with (at_builtin; refine wpl_append_b _ rfl _ _ rfl w1.heap.size _ [] (by rfl) hown0.out _ _ (by rfl) hb1.out l rfl (by omega) (by simp) ?_; intro v' w2 hown hgrow)
  have hx2 : Ext w1 w2 := (Ext.of_alloc w1 _).grown hgrow (by intro k hk; simp [Value.ownBlock] at hk; omega)
  have HX2 := Lib.hid (HX1.out.trans hx2)
  have hm2 := Lib.hid (Bs.of_own hown)
  clear hown hgrow hx2 hown0 hb1
  refine (put_any v' l n size w2 hn hm2.out (by omega) hs1 hs2).mono ?_
  rintro e w3 ⟨v3, rfl, hown3, hx3⟩
  have HX3 := Lib.hid hx3
  have HO3 := Lib.hid hown3
  clear hx3 hown3
  go_wp2_with fail
  refine (get_any v' l at_ size w3 (hm2.out.ext HX3.out) ha2).mono ?_
  rintro e w4 ⟨rfl, rfl⟩
  have hcb : ∀ w', Ext w3 w' → (convert 22 9 (.slice a l.length cap)).run Try.prog w' = .ok (.string ⟨l.toArray⟩) w' := fun w' hx => hb0.out.str w' ((HX2.out.trans HX3.out).trans hx)
  have hx33 := Ext.refl w3
  go_wp2_with fail
  refine (refGet_l l at_ size w3 (by omega) ha2).mono ?_
  rintro e w4 ⟨rfl, rfl⟩
  generalize (W.get l at_ size).1 = G1
  generalize (W.get l at_ size).2 = G2
  have hcg := (Bs.of_own HO3.out).str
  unfold Str at hcg
  go_wp2_with fail
  have hx3d := Ext.of_drew w3
  go_region_held3 (fun w' => Ext w3 w') (first | assumption | exact Ext.trans (a := w3) (by assumption) (by assumption)) ((go_at_call 24; refine (refPut l n size _ hn (by omega) hs1 hs2).mono ?_; rintro e w4 ⟨rfl, hx4⟩))
  have HX4 := Lib.hid (hx3d.trans hx4)
  have HO4 := Lib.hid (HX4.out.keptOwn HO3.out)
  have hml := Lib.hid ((hm2.out.ext HX3.out).ext HX4.out)
  have hbl := Lib.hid (((hb0.out.ext HX2.out).ext HX3.out).ext HX4.out)
  have hNl : (l ++ W.be (W.sz size) n).length ≤ 20008 := by
    have h2 : W.sz size ≤ 8 := by unfold W.sz; omega
    rw [List.length_append, W.be_length]; omega
  generalize hN : (l ++ W.be (W.sz size) n).length = N at *
  generalize (l ++ W.be (W.sz size) n).map byteVal = XS at *
  have HXX := Lib.hid ((HX2.out.trans HX3.out).trans HX4.out)
  have HS := Lib.hid (Ext.trans HX3.out HX4.out).size
  clear hcg hcb hx4 hx3d hx33
  rcases own_shape HO4.out with ⟨a3, c3, rfl, rfl⟩ | ⟨g3, c3, rfl, hNp, hg3⟩
  · have cv1 := hml.out.toString (P := Try.prog) 22 9 5 Try.underlying22 Try.underlying5 Try.underlying9
    have cv2 := hbl.out.toString (P := Try.prog) 22 9 5 Try.underlying22 Try.underlying5 Try.underlying9
    go_wp2
    refine wp_loop_rounds 1 ?_
    rw [rounds_succ]
    go_wp2
    go_ret
    exact ⟨rfl, HXX.out⟩
  · have HX24 := Lib.hid (HX3.out.trans HX4.out)
    go_wp2
    go_loopw [16] (fun iv wr => ∃ k : Nat, ∃ xs : List Value, k ≤ N ∧ iv = .int .i64 k ∧ wr.ownsRow w2.heap.size 5 1 (.slice (some ⟨g3, 0, none⟩) N c3) N xs ∧ Ext w2 wr) (fun iv _ => N - (intOf iv).toNat)
    case atStart => exact ⟨0, _, by omega, rfl, HO4.out, HX24.out⟩
    case round =>
      obtain ⟨k, xs, hk, rfl, hown, hx⟩ := hrel
      by_cases hkN : k < N
      · have hxl : k < xs.length := by have := hown.1; omega
        have hcell := hown.cellAt k (by omega)
        rw [List.getElem?_eq_getElem hxl] at hcell
        have hfro := hown.frozenAt k
        have hst := (hown.stored k (.int .u8 7)).1
        have hx' := hx.setCell (p := ⟨g3, k, none⟩) hg3 (.int .u8 7)
        have HST := Lib.hid hst
        have HXS := Lib.hid hx'
        clear hst hx' hown hx
        generalize xs[k] = u at hcell
        go_wp2
        go_roundw
        case rel => exact ⟨k + 1, _, by omega, by go_num, HST.out, HXS.out⟩
        case measure => simp [intOf]; omega
      · have hml' := hm2.out.ext hx
        have hbl' := (hb0.out.ext HX2.out).ext hx
        have cv1 := hml'.toString (P := Try.prog) 22 9 5 Try.underlying22 Try.underlying5 Try.underlying9
        have cv2 := hbl'.toString (P := Try.prog) 22 9 5 Try.underlying22 Try.underlying5 Try.underlying9
        have HXW := Lib.hid (HX2.out.trans hx)
        clear hml' hbl'
        go_wp2
        go_ret
        exact ⟨rfl, HXW.out⟩

set_option maxRecDepth 100000 in
set_option maxHeartbeats 800000 in
theorem wordPuts_long (v0 : Value) (l : List UInt8) (n at_ size : Int) (w : World) (h0 : Bs w v0 l) (hl : 20000 < l.length) :
    Calls Try.prog 9 #[v0, .int .u64 n, .int .i64 at_, .int .i64 size] w fun e w' => e = .returned (.bool true) ∧ Ext w w' := by
  have hb0 := Lib.hid h0
  obtain ⟨a, cap, rfl⟩ := h0.shape
  clear h0
  have hd : decide (20000 < l.length) = true := by simp; omega
  go_enter Try.func9, Try.ntmps9
  go_wp2_with fail
  refine (awake w).mono ?_
  rintro e w1 ⟨rfl, hx1⟩
  have HX1 := Lib.hid hx1
  clear hx1
  go_wp2_with fail
  refine (long_any _ l w1 (hb0.out.ext HX1.out)).mono ?_
  rintro e w2 ⟨rfl, rfl⟩
  rw [hd]
  go_wp2
  go_ret
  exact ⟨rfl, HX1.out⟩

theorem walk_wordPuts (v0 : Value) (l : List UInt8) (n at_ size : Int) (w : World) (h0 : Bs w v0 l) (h1 : (Lit.int .u64 n).wf = true) (h2 : (Lit.int .i64 at_).wf = true) (h3 : (Lit.int .i64 size).wf = true) :
    Calls Try.prog 9 #[v0, .int .u64 n, .int .i64 at_, .int .i64 size] w fun e w' => e = .returned (.bool true) ∧ Ext w w' := by
  by_cases hl : 20000 < l.length
  · exact wordPuts_long v0 l n at_ size w h0 hl
  · obtain ⟨k, rfl⟩ := Int.eq_ofNat_of_zero_le (wf_u64 h1).1
    have h4 := wf_u64 h1
    have h5 := wf_i64 h2
    have h6 := wf_i64 h3
    exact wordPuts_core v0 l k at_ size w h0 (by omega) (by omega) h6.1 h6.2 h5.2
end Go.Proofs.Ytnbadeaiocandaa
