/- The walk of jetwaylaw04.DiskKeeps: behind a crash each sector is as the last of its writes that was kept has laid it, or else as it was at the last flush. -/
import Derived.Test.YtmlancmcgcjodaaMade
import Derived.Test.YtmlancmcgcjodaaSects
import Derived.Test.YtmlancmcgcjodaaPFuse
import Derived.Test.YtmlancmcgcjodaaWFlushed
import Derived.Test.YtmlancmcgcjodaaOpen
namespace Go.Proofs.Ytmlancmcgcjodaa
open Go.RowKit

/-- A store into a block apart. -/
theorem Held.set {w0 w : World} {X : Nat → Prop} {p : Nat} {d : D.Dsk} (h : Held w0 w X p d) (q : Addr) (u : Value) (hX : X q.block) (h0 : w0.heap.size ≤ q.block) : Held w0 (w.setCell q u) X p d := by
  obtain ⟨m, wv, hd, hF⟩ := h.inn
  refine ⟨⟨m, wv, hd.mod (F := fun k => k = q.block) (Mod.setCell w q u rfl) (fun k hk e => hF k hk (by rw [e]; exact hX)), hF⟩, h.old, fun k hk => ?_, h.ext.setCell h0 u⟩
  have := h.lt k hk
  simpa using this

set_option maxRecDepth 100000 in
/-- What the sectors are behind a write, if a crash came then. -/
theorem kept_step {d d' : D.Dsk} (i : Nat) (b : List UInt8) (ks : List Bool) (hi : i < 6) (hw : d'.wait = d.wait ++ [((i : Int), b)]) (hs : d'.safe = d.safe) :
    D.secs (D.restart d' ks) 6 = if ks.getD d.wait.length false = true then (D.secs (D.restart d ks) 6).set i b else D.secs (D.restart d ks) 6 := by
  have hk : D.kept d'.wait ks = D.kept d.wait ks ++ (if ks.getD d.wait.length false = true then [((i : Int), b)] else []) := by
    have h1 := D.kept_take d'.wait ks d.wait.length (by rw [hw]; simp)
    have e1 : d'.wait.take (d.wait.length + 1) = d'.wait := List.take_of_length_le (by rw [hw]; simp)
    have e2 : d'.wait.take d.wait.length = d.wait := by rw [hw]; simp
    have e3 : d'.wait[d.wait.length]'(by rw [hw]; simp) = ((i : Int), b) := by simp [hw]
    rw [e1, e2, e3] at h1
    exact h1
  have hsec : ∀ j : Int, D.sector (D.restart d' ks) j = (D.over d.safe (D.kept d.wait ks ++ (if ks.getD d.wait.length false = true then [((i : Int), b)] else [])) j).getD (List.replicate 512 0) := by
    intro j
    show (D.over d'.safe (D.kept d'.wait ks) j).getD _ = _
    rw [hk, hs]
  by_cases hkk : ks.getD d.wait.length false = true
  · rw [if_pos hkk]
    apply List.ext_getElem
    · rw [secs_len, List.length_set, secs_len]
    · intro j h1 h2
      have hj : j < 6 := by rw [secs_len] at h1; exact h1
      have e1 : (D.secs (D.restart d' ks) 6)[j]'h1 = D.sector (D.restart d' ks) (j : Int) := by simp only [D.secs, List.getElem_map, List.getElem_range]
      refine e1.trans ?_
      rw [hsec, if_pos hkk, D.over_snoc]
      by_cases hji : j = i
      · subst hji
        simp
      · have hne : ¬ ((j : Int) = (i : Int)) := by omega
        rw [List.getElem_set_ne (by omega)]
        simp only [hne, if_false]
        simp [D.secs]
        rfl
  · rw [if_neg hkk]
    unfold D.secs
    refine List.map_congr_left (fun j _ => ?_)
    rw [hsec, if_neg hkk, List.append_nil]
    rfl
theorem cut_secs (d : D.Dsk) (ks : List Bool) : D.secs (D.restart (D.cut d) ks) 6 = D.secs (D.restart d ks) 6 := rfl

/-- Behind k writes. -/
structure KeepAt (k : Nat) (d : D.Dsk) : Prop where
  n : d.n = 6
  up : D.Up d
  wl : d.wait.length = k
theorem KeepAt.write {k : Nat} {d : D.Dsk} (h : KeepAt k d) (i : Nat) (b : List UInt8) (hi : i < 6) (hb : b.length = 512) :
    D.writeE d (i : Int) b = 0 ∧ KeepAt (k + 1) (D.write d (i : Int) b) ∧ (D.write d (i : Int) b).wait = d.wait ++ [((i : Int), b)] ∧ (D.write d (i : Int) b).safe = d.safe := by
  obtain ⟨e1, e2⟩ := D.up_write h.up (i : Int) b (by omega) (by rw [h.n]; omega) hb
  rw [e1, e2]
  exact ⟨rfl, ⟨h.n, h.up, by simp [h.wl]⟩, rfl, rfl⟩
theorem KeepAt.bad {k : Nat} {d : D.Dsk} (h : KeepAt k d) (i : Int) (b : List UInt8) (hi : i < 0 ∨ 6 ≤ i) : D.writeE d i b = 1 := by
  have hb : i < 0 ∨ d.n ≤ i := by rw [h.n]; exact hi
  unfold D.writeE
  rw [if_pos hb]

set_option maxRecDepth 100000 in
set_option maxHeartbeats 6400000 in
theorem diskKeeps_core (sv : Value) (l : List Act4) (av : Value) (ats : List Int) (kv : Value) (ks : List Bool) (w : World) (hs : ActsIn w sv l) (ha : Reads w av (ats.map intVal)) (hk : Reads w kv (ks.map Value.bool)) (hl : l.length ≤ 100) (hal : ats.length ≤ 100) :
    Calls Try.prog 3 #[sv, av, kv] w fun e w' => e = .returned (.bool true) ∧ Ext w w' := by
  obtain ⟨a, cap, rfl, _⟩ := hs.shape
  have hin : ks = [] ∨ ∀ q, kv.ownBlock = some q → q < w.heap.size := hk.block_lt.imp (fun e => List.map_eq_nil_iff.1 e) id
  have hksl := hk.length_le
  obtain ⟨aa, ca, rfl⟩ := ha.shape
  obtain ⟨ka, kc, rfl⟩ := hk.shape
  rw [List.length_map] at *
  have HS := Lib.hid hs
  have HA := Lib.hid ha
  have HK := Lib.hid hk
  have HIN := Lib.hid hin
  have hli : ¬ (100 : Int) < (l.length : Int) := by omega
  have hali : ¬ (100 : Int) < (ats.length : Int) := by omega
  clear hs ha hk hin
  go_enter Try.func3, Try.ntmps3
  go_wp2_with fail
  refine (awake4 w).mono ?_
  rintro e w1 ⟨rfl, hx1⟩
  have HX1 := Lib.hid hx1
  clear hx1
  go_wp2_with fail
  refine (made_any _ l w1 (HS.out.ext HX1.out) hl).mono ?_
  rintro e w2 ⟨p, d0, rfl, hh, hsx⟩
  have HD := Lib.hid hh
  have HKA := Lib.hid (show KeepAt 0 d0 from ⟨hsx.n, hsx.up, by rw [hsx.waits]; rfl⟩)
  have hsec0 : D.secs d0 6 = D.secs (D.restart d0 ks) 6 := (secs_same (d := d0) (d' := D.restart d0 ks) (by rw [hsx.waits]; rfl) (by
    show D.over d0.safe (D.kept d0.wait ks) = d0.safe
    rw [hsx.waits, D.kept_nil]; rfl) 6).symm
  clear hh hsx
  go_wp2_with fail
  refine (sectors_any HD.out HKA.out.n HKA.out.up).mono ?_
  rintro e w3 ⟨ov, rfl, hown, hx3⟩
  rw [hsec0] at hown
  have hall := HD.out.all hx3
  have hs12 : w1.heap.size ≤ w2.heap.size := HD.out.ext.size
  obtain ⟨oa, oc, _, h60⟩ | ⟨og, oc, rfl, _, hog⟩ := own_shape hown
  · omega
  have hOX : New (fun k => k < w1.heap.size) w2 w3 og := .inr (hown.lt og rfl)
  generalize New (fun k => k < w1.heap.size) w2 w3 = Y at hall hOX
  have HY := Lib.hid hall
  have HOX := Lib.hid hOX
  have HO := Lib.hid (ownsRow_base hown (base' := w1.heap.size) (fun q hq => by
    obtain rfl : og = q := by simpa [Value.ownBlock] using hq
    omega))
  have HOG := Lib.hid (Nat.le_trans hs12 hog)
  clear hall hOX hown hx3 HD hog hs12 hsec0
  go_wp2
  go_loopw [10] (fun iv wr => ∃ k : Nat, ∃ d, k ≤ ats.length ∧ iv = .int .i64 k ∧ Hid (KeepAt k d) ∧ Hid (Held w1 wr Y p d) ∧ Hid (wr.ownsRow w1.heap.size 9 1 (.slice (some ⟨og, 0, none⟩) 6 oc) 6 ((D.secs (D.restart d ks) 6).map strV))) (fun iv _ => ats.length - (intOf iv).toNat)
  case atStart => exact ⟨0, d0, by omega, rfl, HKA, HY, HO⟩
  case round =>
    obtain ⟨k, d, hkl, rfl, hka, hH, hO⟩ := hrel
    clear HKA HY HO
    by_cases hlt : k < ats.length
    · have hlti : (k : Int) < (ats.length : Int) := by omega
      have hk100 : (k : Int) < 100 := by omega
      have hb1 := Bs.lit wr [UInt8.ofNat k, 200] 5 (by simp [maxLen])
      have hofn : (UInt8.ofNat k).toNat = k := by simp; omega
      simp only [List.map_cons, List.map_nil, byteVal, hofn, List.length_cons, List.length_nil] at hb1
      clear hofn
      have hx1 := Ext.of_alloc wr (.cells #[.int .u8 (k : Int), .int .u8 200] 5)
      go_wp2_with fail
      refine (full_step _ _ _ hb1).mono ?_
      rintro e w6 ⟨b, rfl, hb, hb2, hbs, hx2⟩
      have hHA := hH.out.all (hx1.trans hx2)
      have hYb : New Y wr w6 b := .inr ⟨Nat.le_trans hx1.size hb, hb2⟩
      have hYY : ∀ q, Y q → New Y wr w6 q := fun q hq => .inl hq
      generalize New Y wr w6 = Z at hHA hYb hYY
      have hMl : (D.full [UInt8.ofNat k, 200]).length = 512 := full_len _
      generalize D.full [UInt8.ofNat k, 200] = M at hbs hMl
      have HB := Lib.hid hbs
      have HZB := Lib.hid hYb
      have HYY := Lib.hid hYY
      have HA2 := Lib.hid hHA
      have HO2 := Lib.hid ((hx1.trans hx2).keptOwn hO.out)
      obtain ⟨b1, o1, rfl, hca⟩ := (HA.out.ext (HX1.out.trans hHA.ext)).at k (by rw [List.length_map]; exact hlt)
      rw [List.getElem_map] at hca
      unfold intVal at hca
      clear hb1 hx1 hb hb2 hbs hx2 hYb hYY hHA
      have HYO := Lib.hid hH.out.old
      clear hO hH
      generalize hasx : ats[k] = x at *
      have HAX := Lib.hid hasx
      clear hasx
      have hwl := hka.out.wl
      have HW := Lib.hid (held_write_X HA2.out x (.slice (some ⟨b, 0, none⟩) 512 512) M HB.out (fun q hq => by
        obtain rfl : b = q := by simpa [Value.ownBlock] using hq
        exact HZB.out) (by omega))
      clear HA2
      by_cases hleg : 0 ≤ x ∧ x < 6
      · obtain ⟨hx0, hx6⟩ := hleg
        obtain ⟨j, rfl⟩ := Int.eq_ofNat_of_zero_le hx0
        have hj : j < 6 := by omega
        obtain ⟨q1, q2, q3, q4⟩ := hka.out.write j M hj hMl
        have hks := kept_step j M ks hj q3 q4
        rw [q1] at HW
        generalize D.write d (j : Int) M = d1 at *
        rw [hwl] at hks
        have HQ2 := Lib.hid q2
        have HKS := Lib.hid hks
        clear q1 q2 q3 q4 hks
        go_wp2_with fail
        refine HW.out.mono ?_
        clear HW
        rintro e w7 ⟨rfl, hs, hke⟩
        have HB7 := Lib.hid (hke.bs HB.out (fun q hq => by
          obtain rfl : b = q := by simpa [Value.ownBlock] using hq
          exact HZB.out))
        have HO7 := Lib.hid (hke.own HO2.out (fun q hq => by
          obtain rfl : og = q := by simpa [Value.ownBlock] using hq
          exact HYY.out _ HOX.out))
        have HD7 := Lib.hid (hs.less HYY.out HYO.out)
        obtain ⟨b1', o1', hfe, hca7⟩ := (HA.out.ext (HX1.out.trans hs.ext)).at k (by rw [List.length_map]; exact hlt)
        obtain ⟨rfl, rfl, _⟩ := Addr.mk.inj (Option.some.inj hfe)
        rw [List.getElem_map, HAX.out] at hca7
        have hca8 : w7.cell? ⟨b1, o1 + k, none⟩ = some (.int .i64 (j : Int)) := hca7
        have hX7 := Lib.hid hs.ext
        clear hs hke HB HO2 hca hca7 hfe
        by_cases hkk : ks.getD k false = true
        · rw [if_pos hkk] at HKS
          have hkl2 : k < ks.length := by
            rcases Nat.lt_or_ge k ks.length with h' | h'
            · exact h'
            · rw [List.getD_eq_getElem?_getD, List.getElem?_eq_none h'] at hkk; cases hkk
          have hkl2i : (k : Int) < (ks.length : Int) := by omega
          obtain ⟨b2, o2, rfl, hck⟩ := (HK.out.ext (HX1.out.trans hX7.out)).at k (by rw [List.length_map]; exact hkl2)
          rw [List.getElem_map] at hck
          have hkt : ks[k] = true := by rw [List.getD_eq_getElem?_getD, List.getElem?_eq_getElem hkl2] at hkk; exact hkk
          rw [hkt] at hck
          have hcs := (HB7.out.ext (Ext.of_drew w7)).toString (P := Try.prog) 31 9 5 Try.underlying31 Try.underlying5 Try.underlying9
          have hsl : j < ((D.secs (D.restart d ks) 6).map strV).length := by simp [secs_len]; omega
          have hcell := ((Ext.of_drew w7).keptOwn HO7.out).cellAt j (by omega)
          rw [List.getElem?_eq_getElem hsl] at hcell
          have hfro := ((Ext.of_drew w7).keptOwn HO7.out).frozenAt j
          have hst := (((Ext.of_drew w7).keptOwn HO7.out).stored j (strV M)).1
          rw [← List.map_set, ← HKS.out] at hst
          have HST := Lib.hid hst
          have HD8 := Lib.hid ((HD7.out.after_ext (Ext.of_drew w7)).set ⟨og, j, none⟩ (strV M) HOX.out HOG.out)
          generalize ((D.secs (D.restart d ks) 6).map strV)[j] = u at hcell
          clear hst hsl hkk hkt HO7
          unfold strV at HST HD8
          go_wp2_with fail
          go_region
          go_wp2
          go_roundw
          case rel => exact ⟨k + 1, d1, by omega, by go_num, HQ2, HD8, HST⟩
          case measure => (simp [intOf]; try omega)
        · rw [if_neg hkk] at HKS
          have HO8 := Lib.hid (show w7.ownsRow w1.heap.size 9 1 (.slice (some ⟨og, 0, none⟩) 6 oc) 6 ((D.secs (D.restart d1 ks) 6).map strV) by rw [HKS.out]; exact HO7.out)
          by_cases hkl2 : k < ks.length
          · have hkl2i : (k : Int) < (ks.length : Int) := by omega
            obtain ⟨b2, o2, rfl, hck⟩ := (HK.out.ext (HX1.out.trans hX7.out)).at k (by rw [List.length_map]; exact hkl2)
            rw [List.getElem_map] at hck
            have hkt : ks[k] = false := by
              rw [List.getD_eq_getElem?_getD, List.getElem?_eq_getElem hkl2] at hkk
              simpa using hkk
            rw [hkt] at hck
            clear hkk hkt HO7 HB7
            go_wp2
            go_roundw
            case rel => exact ⟨k + 1, d1, by omega, by go_num, HQ2, HD7, HO8⟩
            case measure => (simp [intOf]; try omega)
          · have hkl2i : ¬ (k : Int) < (ks.length : Int) := by omega
            clear hkk HO7 HB7
            go_wp2
            go_roundw
            case rel => exact ⟨k + 1, d1, by omega, by go_num, HQ2, HD7, HO8⟩
            case measure => (simp [intOf]; try omega)
      · have q1 := hka.out.bad x M (by omega)
        rw [q1] at HW
        clear q1
        by_cases hx0 : 0 ≤ x
        · have hx6 : decide (x < 6) = false := by simp; omega
          go_wp2_with fail
          refine HW.out.mono ?_
          clear HW
          rintro e w7 ⟨rfl, hs, hke⟩
          have HXX := Lib.hid (HX1.out.trans hs.ext)
          clear hs hke
          go_wp2
          go_ret
          exact ⟨rfl, HXX.out⟩
        · go_wp2_with fail
          refine HW.out.mono ?_
          clear HW
          rintro e w7 ⟨rfl, hs, hke⟩
          have HXX := Lib.hid (HX1.out.trans hs.ext)
          clear hs hke
          go_wp2
          go_ret
          exact ⟨rfl, HXX.out⟩
    · obtain rfl : k = ats.length := by omega
      have hwl : (d.wait.length : Int) = (ats.length : Int) := by rw [hka.out.wl]
      have hdc := Lib.hid (cut_secs d ks)
      have hn6 : (D.restart (D.cut d) ks).n = 6 := hka.out.n
      have hup : D.Up (D.restart (D.cut d) ks) := ⟨rfl, rfl⟩
      have hw0 : (D.restart (D.cut d) ks).wait = [] := rfl
      go_wp2_with fail
      refine (held_waiting hH.out).mono ?_
      rintro e w4 ⟨rfl, rfl⟩
      rw [hwl]
      go_wp2_with fail
      refine (held_cut hH.out).mono ?_
      rintro e w4 ⟨rfl, hs, hke⟩
      have HO4 := Lib.hid (hke.own hO.out (fun q hq => by
        obtain rfl : og = q := by simpa [Value.ownBlock] using hq
        exact HOX.out))
      have HR := Lib.hid (held_restart hs (Ext.refl _) (.slice ka ks.length kc) ks (HK.out.ext (HX1.out.trans hs.ext)) (HIN.out.imp id (fun hq q e => .inl (hs.old q (Nat.lt_of_lt_of_le (hq q e) HX1.out.size)))))
      clear hs hke hO hH
      go_wp2_with fail
      refine HR.out.mono ?_
      clear HR
      rintro e w5 ⟨rfl, hs, hke⟩
      have HO5 := Lib.hid (hke.own HO4.out (fun q hq => by
        obtain rfl : og = q := by simpa [Value.ownBlock] using hq
        exact HOX.out))
      rw [← hdc.out] at HO5
      generalize D.restart (D.cut d) ks = d2 at *
      have HD5 := Lib.hid hs
      clear hs hke HO4 hdc
      go_wp2_with fail
      refine (held_waiting HD5.out).mono ?_
      rintro e w6 ⟨rfl, rfl⟩
      rw [hw0]
      go_wp2_with fail
      refine (held_down HD5.out).mono ?_
      rintro e w6 ⟨rfl, rfl⟩
      rw [hup.1]
      go_wp2_with fail
      refine (sectors_any HD5.out hn6 hup).mono ?_
      rintro e w6 ⟨ov2, rfl, hown2, hx4⟩
      have hr1 := Reads.of_own hown2 (by simp [strV, Value.oneCell'])
      have hr2 := Reads.of_own (hx4.keptOwn HO5.out) (by simp [strV, Value.oneCell'])
      have HXX := Lib.hid ((HX1.out.trans HD5.out.ext).trans hx4)
      go_wp2_with fail
      refine (same_any _ _ _ _ _ hr1 hr2).mono ?_
      rintro e w7 ⟨rfl, hx5⟩
      have HXY := Lib.hid (HXX.out.trans hx5)
      rw [decide_eq_true (Eq.refl (D.secs d2 6))]
      clear hx5 hr1 hr2 hown2 hx4 HXX
      go_wp2
      go_ret
      exact ⟨rfl, HXY.out⟩

set_option maxRecDepth 100000 in
theorem walk_diskKeeps (sv : Value) (l : List Act4) (av : Value) (ats : List Int) (kv : Value) (ks : List Bool) (w : World) (hs : ActsIn w sv l) (ha : Reads w av (ats.map intVal) ∧ ∀ n ∈ ats, (Lit.int .i64 n).wf = true) (hk : Reads w kv (ks.map Value.bool)) :
    Calls Try.prog 3 #[sv, av, kv] w fun e w' => e = .returned (.bool true) ∧ Ext w w' := by
  by_cases hl : l.length ≤ 100
  · by_cases hal : ats.length ≤ 100
    · exact diskKeeps_core sv l av ats kv ks w hs ha.1 hk hl hal
    · obtain ⟨a, cap, rfl, _⟩ := hs.shape
      obtain ⟨aa, ca, rfl⟩ := ha.1.shape
      rw [List.length_map] at *
      have hli : ¬ (100 : Int) < (l.length : Int) := by omega
      have hali : (100 : Int) < (ats.length : Int) := by omega
      clear hs ha hk hl hal
      go_enter Try.func3, Try.ntmps3
      go_wp2_with fail
      refine (awake4 w).mono ?_
      rintro e w1 ⟨rfl, hx1⟩
      have HX1 := Lib.hid hx1
      clear hx1
      go_wp2
      go_ret
      exact ⟨rfl, HX1.out⟩
  · obtain ⟨a, cap, rfl, _⟩ := hs.shape
    have hli : (100 : Int) < (l.length : Int) := by omega
    clear hs ha hk hl
    go_enter Try.func3, Try.ntmps3
    go_wp2_with fail
    refine (awake4 w).mono ?_
    rintro e w1 ⟨rfl, hx1⟩
    have HX1 := Lib.hid hx1
    clear hx1
    go_wp2
    go_ret
    exact ⟨rfl, HX1.out⟩
end Go.Proofs.Ytmlancmcgcjodaa
