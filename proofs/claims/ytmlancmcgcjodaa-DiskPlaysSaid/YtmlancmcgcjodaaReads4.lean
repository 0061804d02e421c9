/- jetwaylaw04.Reads: a disk reads a sector just as the document's does. -/
import Derived.Test.YtmlancmcgcjodaaPPlay
import Derived.Test.YtmlancmcgcjodaaActs
namespace Go.Proofs.Ytmlancmcgcjodaa
open Go.RowKit

theorem one_box (w : World) (A : Array Value) (e : TypeId) {v : World} (hx : Ext (w.alloc (.cells A e)) v) : v.heap[w.heap.size]? = some (.cells A e (0, 0)) :=
  (Below.block (B := (w.alloc (.cells A e)).heap.size) hx _ (by rw [World.size_alloc]; omega)).trans (heap_alloc_new w (.cells A e))
theorem u8_up (x : UInt8) : Value.int .u8 (((x.toNat : Int) + 1) % 256) = byteVal (x + 1) := by
  unfold byteVal
  rw [UInt8.toNat_add]
  rfl

set_option maxRecDepth 100000 in
set_option maxHeartbeats 1600000 in
theorem reads4 {w0 w : World} {X : Nat → Prop} {p : Nat} {d : D.Dsk} {r : Ref4} {sv wv : Value} (h : Held w0 w X p d) (hr : RefAt w X r sv wv) (hrel4 : Rel d r) (i : Int) :
    Calls Try.prog 25 #[.pointer (some ⟨p, 0, none⟩), rv r sv wv, .int .i64 i] w fun e w' => e = .returned (.bool true) ∧ Ext w w' := by
  have hE := hrel4.readE i
  have hB := hrel4.readB i
  have hrd := fun w (h : Held w0 w X p d) => held_read h i
  unfold Red at hrd
  rw [hE, hB] at hrd
  have href := fun w (h : RefAt w X r sv wv) => ref_read r sv wv i w h.safe h.wait
  unfold readV at href
  generalize R4.readB r i = B at *
  generalize R4.readE r i = E at *
  clear hE hB hrel4
  have HD := Lib.hid h
  have HR := Lib.hid hr
  obtain ⟨sa, sn, sc, rfl⟩ := hr.safe.any
  obtain ⟨wa, wn, wc', rfl⟩ := hr.wait.any
  obtain ⟨n, safe, wait, armed, down, after⟩ := r
  unfold rv at *
  simp only at href ⊢
  clear h hr
  have hx1 := Ext.of_alloc w (.cells #[.int .i64 n, .slice sa sn sc, .slice wa wn wc', .bool armed, .bool down, .int .i64 after] 51)
  have HX1 := Lib.hid hx1
  have HRD := Lib.hid (hrd _ (HD.out.after_ext hx1))
  clear hx1 hrd
  go_enter Try.func25, Try.ntmps25
  go_wp2_with fail
  refine HRD.out.mono ?_
  clear HRD
  rintro e w2 ⟨v, rfl, hown, hx2⟩
  obtain ⟨c0, c1, c2, c3, c4, c5, _⟩ := box_facts (one_box w _ _ hx2)
  have HX2 := Lib.hid (HX1.out.trans hx2)
  have HO := Lib.hid (ownsRow_base hown (base' := w.heap.size) (fun k hk => Nat.le_trans HX1.out.size (hown.lt k hk).1))
  clear hown hx2 HX1
  have HRF := Lib.hid (href w2 (HR.out.ext HX2.out))
  clear href
  go_wp2_with fail
  refine HRF.out.mono ?_
  clear HRF c0 c1 c2 c3 c4 c5
  rintro e w3 ⟨rfl, hx3⟩
  have HX3 := Lib.hid (HX2.out.trans hx3)
  have HO3 := Lib.hid (hx3.keptOwn HO.out)
  clear hx3 HO
  have hcv := (Bs.of_own HO3.out).toString (P := Try.prog) 31 9 5 Try.underlying31 Try.underlying5 Try.underlying9
  unfold strV
  have hBl : B.length ≤ 9223372036854775807 := (Bs.of_own HO3.out).length_le
  rcases own_shape HO3.out with ⟨oa, oc, rfl, h0⟩ | ⟨g, oc, rfl, hp, hg⟩
  · have hBe : B = [] := List.eq_nil_of_length_eq_zero h0
    subst hBe
    clear h0
    go_wp2
    refine wp_loop_rounds 1 ?_
    rw [rounds_succ]
    go_wp2
    go_ret
    exact ⟨rfl, HX3.out⟩
  · go_wp2
    go_loopw [12] (fun iv wr => ∃ k : Nat, ∃ L : List UInt8, k ≤ B.length ∧ L.length = B.length ∧ iv = .int .i64 k ∧ Hid (wr.ownsRow w.heap.size 64 1 (.slice (some ⟨g, 0, none⟩) B.length oc) B.length (L.map byteVal)) ∧ Hid (Ext w wr)) (fun iv _ => B.length - (intOf iv).toNat)
    case atStart => exact ⟨0, B, by omega, rfl, rfl, HO3, HX3⟩
    case round =>
      obtain ⟨k, L, hk, hL, rfl, hown, hx⟩ := hrel
      clear HO3 HX3 hcv
      by_cases hlt : k < B.length
      · have hlti : (k : Int) < (B.length : Int) := by omega
        have hkL : k < L.length := by omega
        have hcell := hown.out.cellAt k (by omega)
        rw [List.getElem?_map, List.getElem?_eq_getElem hkL] at hcell
        simp only [Option.map_some] at hcell
        have hfro := hown.out.frozenAt k
        have hup := u8_up L[k]
        have hst := (hown.out.stored k (byteVal (L[k] + 1))).1
        rw [← List.map_set] at hst
        have HST := Lib.hid hst
        have HXS := Lib.hid (hx.out.setCell (p := ⟨g, k, none⟩) hg (byteVal (L[k] + 1)))
        have HUP := Lib.hid hup
        clear hst hown hx hup
        generalize hy : L[k] = y at *
        clear hy
        unfold byteVal at hcell
        go_wp2
        rw [HUP.out]
        go_roundw
        case rel => exact ⟨k + 1, _, by omega, by rw [List.length_set]; exact hL, by go_num, HST, HXS⟩
        case measure => (simp [intOf]; try omega)
      · have HXF := Lib.hid hx.out
        clear hown hx
        go_wp2
        go_ret
        exact ⟨rfl, HXF.out⟩
end Go.Proofs.Ytmlancmcgcjodaa
