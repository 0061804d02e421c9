/- The walk of jetwaylaw04.DiskFlushed: what was flushed is there behind any crash in which nothing further was written. -/
import Derived.Test.YtmlancmcgcjodaaMade
import Derived.Test.YtmlancmcgcjodaaSects
import Derived.Test.YtmlancmcgcjodaaPFuse
namespace Go.Proofs.Ytmlancmcgcjodaa
open Go.RowKit

theorem Six.waits {d : D.Dsk} (h : Six d 0) : d.wait = [] := List.eq_nil_of_length_eq_zero (by have := h.wl; omega)
theorem D.kept_nil (ks : List Bool) : D.kept [] ks = [] := by cases ks <;> rfl
theorem D.cut_down (d : D.Dsk) : Down d.n d.safe d.wait (D.cut d) := ⟨rfl, rfl, rfl, rfl⟩
theorem Down.write {n : Int} {safe : Int → Option (List UInt8)} {wait : List (Int × List UInt8)} {d : D.Dsk} (h : Down n safe wait d) (i : Int) (s : List UInt8) (h1 : 0 ≤ i) (h2 : i < n) (h3 : s.length = 512) : D.writeE d i s = 3 ∧ D.write d i s = d := by
  have hb : ¬ (i < 0 ∨ d.n ≤ i) := by rw [h.n]; omega
  have hb2 : ¬ s.length ≠ 512 := by omega
  unfold D.writeE D.write
  rw [if_neg hb, if_neg hb, if_neg hb2, if_neg hb2, if_pos h.down, if_pos h.down]
  exact ⟨rfl, rfl⟩
theorem Down.read {n : Int} {safe : Int → Option (List UInt8)} {wait : List (Int × List UInt8)} {d : D.Dsk} (h : Down n safe wait d) (i : Int) (h1 : 0 ≤ i) (h2 : i < n) : D.readE d i = 3 := by
  have hb : ¬ (i < 0 ∨ d.n ≤ i) := by rw [h.n]; omega
  unfold D.readE
  rw [if_neg hb, if_pos h.down]
theorem secs_same {d d' : D.Dsk} (h : d'.wait = d.wait) (hs : d'.safe = d.safe) (k : Nat) : D.secs d' k = D.secs d k := by
  unfold D.secs D.sector
  rw [h, hs]

set_option maxRecDepth 100000 in
set_option maxHeartbeats 3200000 in
theorem diskFlushed_core (sv : Value) (l : List Act4) (kv : Value) (ks : List Bool) (times : Int) (w : World) (hs : ActsIn w sv l) (hk : Reads w kv (ks.map Value.bool)) (hl : l.length ≤ 100) :
    Calls Try.prog 4 #[sv, kv, .int .i64 times] w fun e w' => e = .returned (.bool true) ∧ Ext w w' := by
  obtain ⟨a, cap, rfl, _⟩ := hs.shape
  have hin : ks = [] ∨ ∀ q, kv.ownBlock = some q → q < w.heap.size := hk.block_lt.imp (fun e => List.map_eq_nil_iff.1 e) id
  have HS := Lib.hid hs
  have HK := Lib.hid hk
  have HIN := Lib.hid hin
  have hli : ¬ (100 : Int) < (l.length : Int) := by omega
  clear hs hk hin
  go_enter Try.func4, Try.ntmps4
  go_wp2_with fail
  refine (awake4 w).mono ?_
  rintro e w1 ⟨rfl, hx1⟩
  have HX1 := Lib.hid hx1
  clear hx1
  go_wp2_with fail
  refine (made_any _ l w1 (HS.out.ext HX1.out) hl).mono ?_
  rintro e w2 ⟨p, d, rfl, hh, hsx⟩
  have HSX := Lib.hid hsx
  have HD := Lib.hid hh
  clear hh hsx
  go_wp2_with fail
  refine (sectors_any HD.out HSX.out.n HSX.out.up).mono ?_
  rintro e w3 ⟨ov, rfl, hown, hx3⟩
  have hall := HD.out.all hx3
  have hOX : ∀ q, ov.ownBlock = some q → New (fun k => k < w1.heap.size) w2 w3 q := fun q hq => .inr (hown.lt q hq)
  generalize New (fun k => k < w1.heap.size) w2 w3 = Y at hall hOX
  have HY := Lib.hid hall
  have HOX := Lib.hid hOX
  have HO := Lib.hid hown
  clear hall hOX hown hx3 HD
  go_wp2
  go_loopw [10] (fun iv wr => ∃ k : Nat, ∃ d', k ≤ 5 ∧ iv = .int .i64 k ∧ Hid (Six d' 0 ∧ d'.safe = d.safe) ∧ Hid (Held w1 wr Y p d') ∧ Hid (Keeps Y w3 wr)) (fun iv _ => 5 - (intOf iv).toNat)
  case atStart => exact ⟨0, d, by omega, rfl, ⟨HSX.out, rfl⟩, HY, Keeps.refl _ _⟩
  case round =>
    obtain ⟨k, d', hk5, rfl, hse, hH, hKe⟩ := hrel
    clear HY
    by_cases hlt : (k : Int) < times ∧ (k : Int) < 5
    · obtain ⟨hlt1, hlt2⟩ := hlt
      have hd := Lib.hid (D.cut_down d')
      have hz : d'.wait = [] := hse.out.1.waits
      have hn : d'.n = 6 := hse.out.1.n
      rw [hz, hn] at hd
      go_wp2_with fail
      refine (held_cut hH.out).mono ?_
      rintro e w4 ⟨rfl, hs, hke⟩
      have HD4 := Lib.hid hs
      have HK4 := Lib.hid (Keeps.trans hKe.out hke)
      clear hs hke hKe hH
      generalize D.cut d' = dc at *
      have hre := hd.out.read 0 (by omega) (by omega)
      go_wp2_with fail
      refine (held_read HD4.out 0).mono ?_
      rintro e w5 ⟨v, rfl, _, hx5⟩
      rw [hre]
      have HD5 := Lib.hid (HD4.out.after_ext hx5)
      have HK5 := Lib.hid (Keeps.trans HK4.out (Keeps.of_ext hx5))
      have HF := Lib.hid (held_flush HD5.out)
      rw [hd.out.flush.1, hd.out.flush.2] at HF
      clear hx5 hre HD4 HK4
      go_wp2_with fail
      refine HF.out.mono ?_
      clear HF
      rintro e w6 ⟨rfl, hs, hke⟩
      have HD6 := Lib.hid hs
      have HK6 := Lib.hid (Keeps.trans HK5.out hke)
      clear hs hke HD5 HK5
      go_wp2_with fail
      refine (full_step _ _ _ (Bs.nil w6)).mono ?_
      rintro e w7 ⟨b, rfl, hb, hb2, hbs, hx7⟩
      have HW := Lib.hid (held_write HD6.out hx7 0 _ _ hbs (held_full b (Nat.le_refl _) hb hb2) (by
        have h1 := hd.out.wait
        rw [h1]; simp))
      rw [(hd.out.write 0 (D.full []) (by omega) (by omega) (full_len _)).1, (hd.out.write 0 (D.full []) (by omega) (by omega) (full_len _)).2] at HW
      have HK7 := Lib.hid (Keeps.trans HK6.out (Keeps.of_ext hx7))
      clear hb hb2 hbs hx7 HK6 HD6
      go_wp2_with fail
      refine HW.out.mono ?_
      clear HW
      rintro e w8 ⟨rfl, hs, hke⟩
      have HD8 := Lib.hid hs
      have HK8 := Lib.hid (Keeps.trans HK7.out hke)
      clear hs hke HK7
      go_wp2_with fail
      refine (held_waiting HD8.out).mono ?_
      rintro e w9 ⟨rfl, rfl⟩
      have hwz : (dc.wait.length : Int) = 0 := by rw [hd.out.wait]; rfl
      rw [hwz]
      clear hwz
      have HR := Lib.hid (held_restart HD8.out (Ext.refl _) kv ks (HK.out.ext (HX1.out.trans HD8.out.ext)) (HIN.out.imp id (fun hq q e => .inl (HD8.out.old q (Nat.lt_of_lt_of_le (hq q e) HX1.out.size)))))
      go_wp2_with fail
      refine HR.out.mono ?_
      clear HR
      rintro e w10 ⟨rfl, hs, hke⟩
      have HD10 := Lib.hid hs
      have HK10 := Lib.hid (Keeps.trans HK8.out hke)
      have hSE2 : Hid (Six (D.restart dc ks) 0 ∧ (D.restart dc ks).safe = d.safe) := by
        refine ⟨⟨hd.out.n, ⟨rfl, rfl⟩, by simp [D.restart]⟩, ?_⟩
        show D.over dc.safe (D.kept dc.wait ks) = d.safe
        rw [hd.out.wait, D.kept_nil, hd.out.safe]
        exact hse.out.2
      clear hs hke HD8 HK8 hd hse
      go_wp2
      go_roundw
      case rel => exact ⟨k + 1, _, by omega, by go_num, hSE2, HD10, HK10⟩
      case measure => (simp [intOf]; try omega)
    · have hsec : D.secs d' 6 = D.secs d 6 := secs_same (by rw [hse.out.1.waits, HSX.out.waits]) hse.out.2 6
      have HSEC := Lib.hid hsec
      clear hsec
      obtain ⟨oa, oc, _, h60⟩ | ⟨og, oc, rfl, _⟩ := own_shape HO.out
      · omega
      have HKO := Lib.hid (hKe.out.own HO.out HOX.out)
      have hb1 : (k : Int) < times → ¬ (k : Int) < 5 := fun h1 h2 => hlt ⟨h1, h2⟩
      clear hlt
      by_cases h1 : (k : Int) < times
      · have h2 := hb1 h1
        clear hb1
        go_wp2_with fail
        refine (sectors_any hH.out hse.out.1.n hse.out.1.up).mono ?_
        rintro e w4 ⟨ov2, rfl, hown2, hx4⟩
        rw [HSEC.out] at hown2
        have hr1 := Reads.of_own hown2 (by simp [strV, Value.oneCell'])
        have hr2 := Reads.of_own (hx4.keptOwn HKO.out) (by simp [strV, Value.oneCell'])
        have HXX := Lib.hid ((HX1.out.trans hH.out.ext).trans hx4)
        go_wp2_with fail
        refine (same_any _ _ _ _ _ hr1 hr2).mono ?_
        rintro e w5 ⟨rfl, hx5⟩
        have HXY := Lib.hid (HXX.out.trans hx5)
        rw [decide_eq_true (Eq.refl (D.secs d 6))]
        clear hx5 hr1 hr2 hown2 hx4 HXX
        go_wp2
        go_ret
        exact ⟨rfl, HXY.out⟩
      · clear hb1
        go_wp2_with fail
        refine (sectors_any hH.out hse.out.1.n hse.out.1.up).mono ?_
        rintro e w4 ⟨ov2, rfl, hown2, hx4⟩
        rw [HSEC.out] at hown2
        have hr1 := Reads.of_own hown2 (by simp [strV, Value.oneCell'])
        have hr2 := Reads.of_own (hx4.keptOwn HKO.out) (by simp [strV, Value.oneCell'])
        have HXX := Lib.hid ((HX1.out.trans hH.out.ext).trans hx4)
        go_wp2_with fail
        refine (same_any _ _ _ _ _ hr1 hr2).mono ?_
        rintro e w5 ⟨rfl, hx5⟩
        have HXY := Lib.hid (HXX.out.trans hx5)
        rw [decide_eq_true (Eq.refl (D.secs d 6))]
        clear hx5 hr1 hr2 hown2 hx4 HXX
        go_wp2
        go_ret
        exact ⟨rfl, HXY.out⟩

set_option maxRecDepth 100000 in
theorem walk_diskFlushed (sv : Value) (l : List Act4) (kv : Value) (ks : List Bool) (times : Int) (w : World) (hs : ActsIn w sv l) (hk : Reads w kv (ks.map Value.bool)) (_ht : (Lit.int .i64 times).wf = true) :
    Calls Try.prog 4 #[sv, kv, .int .i64 times] w fun e w' => e = .returned (.bool true) ∧ Ext w w' := by
  by_cases hl : l.length ≤ 100
  · exact diskFlushed_core sv l kv ks times w hs hk hl
  · obtain ⟨a, cap, rfl, _⟩ := hs.shape
    have hli : (100 : Int) < (l.length : Int) := by omega
    clear hs hk hl
    go_enter Try.func4, Try.ntmps4
    go_wp2_with fail
    refine (awake4 w).mono ?_
    rintro e w1 ⟨rfl, hx1⟩
    have HX1 := Lib.hid hx1
    clear hx1
    go_wp2
    go_ret
    exact ⟨rfl, HX1.out⟩
end Go.Proofs.Ytmlancmcgcjodaa
