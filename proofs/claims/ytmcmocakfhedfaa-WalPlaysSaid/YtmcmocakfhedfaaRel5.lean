/- Several texts in one (Rel5, Reads5). -/
import Derived.Test.YtmcmocakfhedfaaRef5c
/- DiskPlays, in plain words: the disk and the document's disk go together. -/
namespace Go.Proofs.Ytmcmocakfhedfaa
open Go.RowKit

theorem D.over_append (f : Int → Option (List UInt8)) (A B : List (Int × List UInt8)) : D.over f (A ++ B) = D.over (D.over f A) B := by unfold D.over; rw [List.foldl_append]

/-- The disk and the document's disk, side by side. -/
structure Rel (d : D.Dsk) (r : Ref4) : Prop where
  n : d.n = r.n
  down : d.down = r.down
  armed : d.armed = r.armed
  aft : r.armed = true → d.after = r.after
  wait : d.wait = r.wait
  safe : d.safe = D.over (fun _ => none) r.safe

theorem over_look (l : List (Int × List UInt8)) (i : Int) : D.over (fun _ => none) l i = D.look l i := by
  have key : ∀ (k : Nat), k ≤ l.length → D.over (fun _ => none) (l.take k) i = D.look (l.take k) i := by
    intro k
    induction k with
    | zero => intro _; rfl
    | succ k ih =>
      intro h
      rw [D.over_take _ l k (by omega), D.look_take l k (by omega) i]
      show (if i = l[k].1 then some l[k].2 else D.over (fun _ => none) (l.take k) i) = _
      by_cases he : l[k].1 = i
      · rw [if_pos he, if_pos he.symm]
      · rw [if_neg he, if_neg (fun e => he e.symm)]
        exact ih (by omega)
  have h := key l.length (Nat.le_refl _)
  rwa [List.take_length] at h

theorem Rel.sector {d : D.Dsk} {r : Ref4} (h : Rel d r) (i : Int) : D.sector d i = R4.sector r i := by
  unfold D.sector R4.sector
  rw [h.wait, h.safe, over_look]
theorem Rel.readE {d : D.Dsk} {r : Ref4} (h : Rel d r) (i : Int) : D.readE d i = R4.readE r i := by
  unfold D.readE R4.readE
  rw [h.n, h.down]
theorem Rel.readB {d : D.Dsk} {r : Ref4} (h : Rel d r) (i : Int) : D.readB d i = R4.readB r i := by
  unfold D.readB R4.readB
  rw [h.n, h.down, h.sector]
theorem Rel.fresh (n : Int) : Rel (D.fresh n) ⟨n, [], [], false, false, 0⟩ := ⟨rfl, rfl, rfl, (fun h => by cases h), rfl, rfl⟩
theorem Rel.next {d : D.Dsk} {r : Ref4} (h : Rel d r) : Rel (D.goes d) (R4.next r).1 ∧ D.done d = (R4.next r).2 := by
  obtain ⟨n, safe, wait, down, armed, after⟩ := d
  obtain ⟨n', safe', wait', armed', down', after'⟩ := r
  obtain ⟨h1, h2, h3, h4, h5, h6⟩ := h
  simp only at h1 h2 h3 h4 h5 h6
  subst h1 h2 h3 h5 h6
  unfold D.goes D.done R4.next
  cases down
  · cases armed
    · exact ⟨⟨rfl, rfl, rfl, (fun h => by cases h), rfl, rfl⟩, rfl⟩
    · obtain rfl := h4 rfl
      by_cases h0 : after = 0
      · subst h0
        exact ⟨⟨rfl, rfl, rfl, (fun h => by cases h), rfl, rfl⟩, rfl⟩
      · have hb : (after == 0) = false := beq_eq_false_iff_ne.2 h0
        simp only [hb, Bool.and_false, Bool.false_eq_true, if_false, if_true]
        exact ⟨⟨rfl, rfl, rfl, fun _ => rfl, rfl, rfl⟩, rfl⟩
  · exact ⟨⟨rfl, rfl, rfl, h4, rfl, rfl⟩, rfl⟩
theorem Rel.lay {d : D.Dsk} {r : Ref4} (h : Rel d r) (i : Int) (s : List UInt8) : Rel (D.write d i s) (R4.lay r i s).1 ∧ D.writeE d i s = (R4.lay r i s).2 := by
  obtain ⟨hn, hd⟩ := h.next
  unfold D.write D.writeE R4.lay
  rw [h.n]
  by_cases h1 : i < 0 ∨ r.n ≤ i
  · rw [if_pos h1, if_pos h1, if_pos h1]; exact ⟨h, rfl⟩
  · rw [if_neg h1, if_neg h1, if_neg h1]
    by_cases h2 : s.length ≠ 512
    · rw [if_pos h2, if_pos h2, if_pos h2]; exact ⟨h, rfl⟩
    · rw [if_neg h2, if_neg h2, if_neg h2, h.down]
      by_cases h3 : r.down = true
      · rw [if_pos h3, if_pos h3, if_pos h3]; exact ⟨h, rfl⟩
      · rw [if_neg h3, if_neg h3, if_neg h3, hd]
        refine ⟨⟨hn.n, hn.down, hn.armed, hn.aft, by show d.wait ++ _ = r.wait ++ _; rw [h.wait], hn.safe⟩, rfl⟩
theorem Rel.flush {d : D.Dsk} {r : Ref4} (h : Rel d r) : Rel (D.flush d) (R4.flush r).1 ∧ D.flushE d = (R4.flush r).2 := by
  obtain ⟨hn, hd⟩ := h.next
  unfold D.flush D.flushE R4.flush
  rw [hd]
  cases (R4.next r).2
  · exact ⟨hn, rfl⟩
  · refine ⟨⟨hn.n, hn.down, hn.armed, hn.aft, rfl, ?_⟩, rfl⟩
    show D.over d.safe d.wait = D.over _ (r.safe ++ r.wait)
    rw [D.over_append, h.safe, h.wait]
theorem Rel.fuse {d : D.Dsk} {r : Ref4} (h : Rel d r) (a : Int) : Rel (D.fuse d a) (R4.fuse r a).1 ∧ D.fuseE d a = (R4.fuse r a).2 := by
  unfold D.fuse D.fuseE R4.fuse
  by_cases h1 : a < 0
  · rw [if_pos h1, if_pos h1, if_pos h1]; exact ⟨h, rfl⟩
  · rw [if_neg h1, if_neg h1, if_neg h1, h.down]
    by_cases h3 : r.down = true
    · rw [if_pos h3, if_pos h3, if_pos h3]; exact ⟨h, rfl⟩
    · rw [if_neg h3, if_neg h3, if_neg h3]
      exact ⟨⟨h.n, rfl, rfl, fun _ => rfl, h.wait, h.safe⟩, rfl⟩
theorem Rel.cut {d : D.Dsk} {r : Ref4} (h : Rel d r) : Rel (D.cut d) (R4.cut r) := ⟨h.n, rfl, rfl, (fun h => by cases h), h.wait, h.safe⟩
theorem Rel.restart {d : D.Dsk} {r : Ref4} (h : Rel d r) (ks : List Bool) : Rel (D.restart d ks) (R4.restart r ks) := by
  refine ⟨h.n, rfl, rfl, (fun h => by cases h), rfl, ?_⟩
  show D.over d.safe (D.kept d.wait ks) = D.over _ (r.safe ++ D.kept r.wait ks)
  rw [D.over_append, h.safe, h.wait]

/-- How many writes there are. -/
def R4.len (r : Ref4) : Nat := r.safe.length + r.wait.length
theorem lay_len (r : Ref4) (i : Int) (s : List UInt8) : R4.len (R4.lay r i s).1 ≤ R4.len r + 1 := by
  obtain ⟨h1, h2, _⟩ := next_rows r
  unfold R4.lay R4.len
  split
  · show r.safe.length + r.wait.length ≤ _; omega
  · split
    · show r.safe.length + r.wait.length ≤ _; omega
    · split
      · show r.safe.length + r.wait.length ≤ _; omega
      · show (R4.next r).1.safe.length + (r.wait ++ [(i, s)]).length ≤ _
        rw [h1]; simp; omega
theorem flush_len (r : Ref4) : R4.len (R4.flush r).1 ≤ R4.len r := by
  obtain ⟨h1, h2, _⟩ := next_rows r
  unfold R4.flush R4.len
  split
  · show (r.safe ++ r.wait).length + 0 ≤ _; simp
  · show (R4.next r).1.safe.length + (R4.next r).1.wait.length ≤ _
    rw [h1, h2]; omega
theorem fuse_len (r : Ref4) (a : Int) : R4.len (R4.fuse r a).1 ≤ R4.len r := by
  unfold R4.fuse
  split
  · exact Nat.le_refl _
  · split <;> exact Nat.le_refl _
theorem restart_len (r : Ref4) (ks : List Bool) : R4.len (R4.restart r ks) ≤ R4.len r := by
  have h := kept_len r.wait ks r.wait.length
  rw [List.take_length] at h
  show (r.safe ++ D.kept r.wait ks).length + 0 ≤ r.safe.length + r.wait.length
  simp; omega
end Go.Proofs.Ytmcmocakfhedfaa

/- jetwaylaw04.Reads: a disk reads a sector just as the document's does. -/
namespace Go.Proofs.Ytmcmocakfhedfaa
open Go.RowKit

theorem one_box (w : World) (A : Array Value) (e : TypeId) {v : World} (hx : Ext (w.alloc (.cells A e)) v) : v.heap[w.heap.size]? = some (.cells A e (0, 0)) :=
  (Below.block (B := (w.alloc (.cells A e)).heap.size) hx _ (by rw [World.size_alloc]; omega)).trans (heap_alloc_new w (.cells A e))
theorem u8_up (x : UInt8) : Value.int .u8 (((x.toNat : Int) + 1) % 256) = byteVal (x + 1) := by
  unfold byteVal
  rw [UInt8.toNat_add]
  rfl

set_option maxRecDepth 100000 in
set_option maxHeartbeats 1600000 in
theorem reads4 {w0 w : World} {X : Nat → Prop} {p : Nat} {d : D.Dsk} {r : Ref4} {sv wv : Value} (h : Held w0 w X p d) (hr : RefAt w X r sv wv) (hrel4 : Rel d r) (i : Int) :
    Calls Try.prog 80 #[.pointer (some ⟨p, 0, none⟩), rv r sv wv, .int .i64 i] w fun e w' => e = .returned (.bool true) ∧ Ext w w' := by
  have hE := hrel4.readE i
  have hB := hrel4.readB i
  have hrd := fun w (h : Held w0 w X p d) => held_read h i
  unfold Red at hrd
  rw [hE, hB] at hrd
  have href := fun w (h : RefAt w X r sv wv) => ref_read r sv wv i w h.safe h.wait
  unfold readV at href
  generalize R4.readB r i = B at *
  generalize R4.readE r i = E at *
  clear hE hB hrel4
  have HD := Lib.hid h
  have HR := Lib.hid hr
  obtain ⟨sa, sn, sc, rfl⟩ := hr.safe.any
  obtain ⟨wa, wn, wc', rfl⟩ := hr.wait.any
  obtain ⟨n, safe, wait, armed, down, after⟩ := r
  unfold rv at *
  simp only at href ⊢
  clear h hr
  have hx1 := Ext.of_alloc w (.cells #[.int .i64 n, .slice sa sn sc, .slice wa wn wc', .bool armed, .bool down, .int .i64 after] 55)
  have HX1 := Lib.hid hx1
  have HRD := Lib.hid (hrd _ (HD.out.after_ext hx1))
  clear hx1 hrd
  go_enter Try.func80, Try.ntmps80
  go_wp2_with fail
  refine HRD.out.mono ?_
  clear HRD
  rintro e w2 ⟨v, rfl, hown, hx2⟩
  obtain ⟨c0, c1, c2, c3, c4, c5, _⟩ := box_facts (one_box w _ _ hx2)
  have HX2 := Lib.hid (HX1.out.trans hx2)
  have HO := Lib.hid (ownsRow_base hown (base' := w.heap.size) (fun k hk => Nat.le_trans HX1.out.size (hown.lt k hk).1))
  clear hown hx2 HX1
  have HRF := Lib.hid (href w2 (HR.out.ext HX2.out))
  clear href
  go_wp2_with fail
  refine HRF.out.mono ?_
  clear HRF c0 c1 c2 c3 c4 c5
  rintro e w3 ⟨rfl, hx3⟩
  have HX3 := Lib.hid (HX2.out.trans hx3)
  have HO3 := Lib.hid (hx3.keptOwn HO.out)
  clear hx3 HO
  have hcv := (Bs.of_own HO3.out).toString (P := Try.prog) 31 9 5 Try.underlying31 Try.underlying5 Try.underlying9
  unfold strV
  have hBl : B.length ≤ 9223372036854775807 := (Bs.of_own HO3.out).length_le
  rcases own_shape HO3.out with ⟨oa, oc, rfl, h0⟩ | ⟨g, oc, rfl, hp, hg⟩
  · have hBe : B = [] := List.eq_nil_of_length_eq_zero h0
    subst hBe
    clear h0
    go_wp2
    refine wp_loop_rounds 1 ?_
    rw [rounds_succ]
    go_wp2
    go_ret
    exact ⟨rfl, HX3.out⟩
  · go_wp2
    go_loopw [12] (fun iv wr => ∃ k : Nat, ∃ L : List UInt8, k ≤ B.length ∧ L.length = B.length ∧ iv = .int .i64 k ∧ Hid (wr.ownsRow w.heap.size 98 1 (.slice (some ⟨g, 0, none⟩) B.length oc) B.length (L.map byteVal)) ∧ Hid (Ext w wr)) (fun iv _ => B.length - (intOf iv).toNat)
    case atStart => exact ⟨0, B, by omega, rfl, rfl, HO3, HX3⟩
    case round =>
      obtain ⟨k, L, hk, hL, rfl, hown, hx⟩ := hrel
      clear HO3 HX3 hcv
      by_cases hlt : k < B.length
      · have hlti : (k : Int) < (B.length : Int) := by omega
        have hkL : k < L.length := by omega
        have hcell := hown.out.cellAt k (by omega)
        rw [List.getElem?_map, List.getElem?_eq_getElem hkL] at hcell
        simp only [Option.map_some] at hcell
        have hfro := hown.out.frozenAt k
        have hup := u8_up L[k]
        have hst := (hown.out.stored k (byteVal (L[k] + 1))).1
        rw [← List.map_set] at hst
        have HST := Lib.hid hst
        have HXS := Lib.hid (hx.out.setCell (p := ⟨g, k, none⟩) hg (byteVal (L[k] + 1)))
        have HUP := Lib.hid hup
        clear hst hown hx hup
        generalize hy : L[k] = y at *
        clear hy
        unfold byteVal at hcell
        go_wp2
        rw [HUP.out]
        go_roundw
        case rel => exact ⟨k + 1, _, by omega, by rw [List.length_set]; exact hL, by go_num, HST, HXS⟩
        case measure => (simp [intOf]; try omega)
      · have HXF := Lib.hid hx.out
        clear hown hx
        go_wp2
        go_ret
        exact ⟨rfl, HXF.out⟩
end Go.Proofs.Ytmcmocakfhedfaa
