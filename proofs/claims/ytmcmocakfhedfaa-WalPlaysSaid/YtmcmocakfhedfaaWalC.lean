/- wal.current, wal.following: the generations that a disk tells of. -/
import Derived.Test.YtmcmocakfhedfaaWalB
import Derived.Test.YtmcmocakfhedfaaHeld
namespace Go.Proofs.Ytmcmocakfhedfaa
open Go.RowKit

namespace W5
/-- The number that a sector tells of. -/
def told (b : List UInt8) : Nat := (W.get b 1 4).1
def curStep (d : D.Dsk) (x : Nat × Bool) (s : Nat) : Nat × Bool :=
  if told (D.sector d (s : Int)) % 2 = s ∧ D.sector d (s : Int) = head (told (D.sector d (s : Int))) ∧ (x.2 = false ∨ x.1 < told (D.sector d (s : Int))) then (told (D.sector d (s : Int)), true) else x
def curTo (d : D.Dsk) (k : Nat) : Nat × Bool := (List.range k).foldl (curStep d) (0, false)
def current (d : D.Dsk) : Nat × Bool := curTo d 2
theorem curTo_succ (d : D.Dsk) (k : Nat) : curTo d (k + 1) = curStep d (curTo d k) k := by unfold curTo; rw [List.range_succ, List.foldl_append]; rfl
/-- A sector that tells of a number. -/
def tells (b : List UInt8) : Bool := (b.headD 0 == 1 || b.headD 0 == 2) && decide (b = sealed (b.take 508))
def folTo (d : D.Dsk) (gen : Nat) (k : Nat) : Nat := (List.range k).foldl (fun (m i : Nat) => if tells (D.sector d (i : Int)) then max m (told (D.sector d (i : Int))) else m) gen
theorem folTo_succ (d : D.Dsk) (gen k : Nat) : folTo d gen (k + 1) = if tells (D.sector d (k : Int)) then max (folTo d gen k) (told (D.sector d (k : Int))) else folTo d gen k := by unfold folTo; rw [List.range_succ, List.foldl_append]; rfl
def following (d : D.Dsk) (gen : Nat) : Nat := folTo d gen d.n.toNat + 1 + (if folTo d gen d.n.toNat % 2 = gen % 2 then 0 else 1)
theorem told_lt (b : List UInt8) : told b < 4294967296 := by
  unfold told W.get
  split
  · decide
  · split
    · decide
    · refine Nat.lt_of_lt_of_le (W.num_lt _) ?_
      have h : ((b.drop 1).take 4).length ≤ 4 := by rw [List.length_take]; omega
      refine Nat.le_trans (Nat.pow_le_pow_right (by decide) h) (by decide)
theorem curTo_lt (d : D.Dsk) : ∀ k, (curTo d k).1 < 4294967296
  | 0 => by show (0 : Nat) < _; decide
  | k + 1 => by
    rw [curTo_succ]
    unfold curStep
    split
    · exact told_lt _
    · exact curTo_lt d k
theorem folTo_lt (d : D.Dsk) (gen : Nat) (h : gen < 4294967296) : ∀ k, folTo d gen k < 4294967296
  | 0 => h
  | k + 1 => by
    have h1 := folTo_lt d gen h k
    have h2 := told_lt (D.sector d (k : Int))
    rw [folTo_succ]
    split
    · omega
    · exact h1
end W5

set_option maxRecDepth 100000 in
set_option maxHeartbeats 3200000 in
theorem current_any {w0 w : World} {X : Nat → Prop} {p : Nat} {d : D.Dsk} (h : Held w0 w X p d) (hn : 4 ≤ d.n) (hdn : d.down = false) :
    Calls Try.prog 46 #[.pointer (some ⟨p, 0, none⟩)] w fun e w' => e = .returned (.tuple #[.int .u32 ((W5.current d).1 : Int), .bool (W5.current d).2]) ∧ Ext w w' := by
  have HD := Lib.hid h
  have hok := h.okd
  clear h
  go_enter Try.func46, Try.ntmps46
  go_wp2
  go_loopw [4, 5, 12] (fun bv hv iv wr => ∃ k m : Nat, ∃ t : Bool, k ≤ 2 ∧ iv = .int .i64 (k : Int) ∧ bv = .int .u32 (m : Int) ∧ hv = .bool t ∧ Hid ((m, t) = W5.curTo d k) ∧ Hid (Ext w wr)) (fun _ _ iv _ => 2 - (intOf iv).toNat)
  case atStart => exact ⟨0, 0, false, by omega, rfl, rfl, rfl, rfl, Ext.refl w⟩
  case round =>
    obtain ⟨k, m, t, hk, rfl, rfl, rfl, hmt, hx⟩ := hrel
    by_cases hlt : k < 2
    · have hlti : (k : Int) < 2 := by omega
      have hre : D.readE d (k : Int) = 0 := by
        unfold D.readE; rw [if_neg (by omega), hdn]; rfl
      have hrb : D.readB d (k : Int) = D.sector d (k : Int) := by
        unfold D.readB; rw [if_neg (by omega), hdn]; rfl
      have hsl := sector_len hok (k : Int)
      have hst := W5.curTo_succ d k
      rw [← hmt.out] at hst
      unfold W5.curStep at hst
      have hml : m < 4294967296 := by have := W5.curTo_lt d k; rw [← hmt.out] at this; exact this
      go_wp2_with fail
      refine (held_read (HD.out.after_ext hx.out) (k : Int)).mono ?_
      rintro e w2 ⟨v, rfl, hown, hx2⟩
      rw [hre]
      rw [hrb] at hown
      have HX2 := Lib.hid (hx.out.trans hx2)
      have HB := Lib.hid (Bs.of_own hown)
      clear hown hx2 hx hre hrb
      generalize D.sector d (k : Int) = B at *
      have htl := W5.told_lt B
      have hga := get_any v B 1 4 w2 HB.out (by omega)
      have htd : (W.get B 1 4).1 = W5.told B := rfl
      rw [htd] at hga
      have HGA := Lib.hid hga
      clear hga htd
      generalize W5.told B = T at *
      have HST := Lib.hid hst
      clear hst
      have hti : (T : Int) < 4294967296 := by omega
      have hmi : (m : Int) < 4294967296 := by omega
      obtain ⟨r, hr⟩ : ∃ r, r = T % 2 := ⟨_, rfl⟩
      have htm : (T : Int).tmod 2 = (r : Int) := by rw [hr, Int.ofNat_tmod]; rfl
      have hr2 : (r : Int) ≤ 1 := by omega
      rw [← hr] at HST
      have HR := Lib.hid hr
      clear hr
      go_wp2_with fail
      refine HGA.out.mono ?_
      rintro e w3 ⟨rfl, rfl⟩
      clear HGA
      by_cases h1 : r = k
      · have h1i : ((r : Int) == (k : Int)) = true := by rw [beq_iff_eq]; omega
        subst h1
        go_wp2_with fail
        refine (head_any T w2 (by omega)).mono ?_
        rintro e w4 ⟨v4, rfl, hown4, hx4⟩
        have HX4 := Lib.hid (HX2.out.trans hx4)
        have hq := equal_any v v4 B (W5.head T) w4 (HB.out.ext hx4) (Bs.of_own hown4)
        have HQ := Lib.hid hq
        clear hq hown4 hx4
        go_wp2_with fail
        refine HQ.out.mono ?_
        clear HQ
        rintro e w5 ⟨rfl, rfl⟩
        by_cases h2 : B = W5.head T
        · rw [decide_eq_true h2]
          cases t
          · have hs : Hid ((T, true) = W5.curTo d (r + 1)) := by
              exact (HST.out.trans (if_pos (by refine ⟨?_, h2, .inl rfl⟩; first | rfl | trivial))).symm
            clear h2 HST
            go_wp2
            go_roundw
            case rel => exact ⟨r + 1, T, true, by omega, by go_num, rfl, rfl, hs, HX4⟩
            case measure => (simp [intOf]; try omega)
          · by_cases h3 : m < T
            · have h3i : (m : Int) < (T : Int) := by omega
              have hs : Hid ((T, true) = W5.curTo d (r + 1)) := by
                exact (HST.out.trans (if_pos (by refine ⟨?_, h2, .inr h3⟩; first | rfl | trivial))).symm
              clear h2 HST h3
              go_wp2
              go_roundw
              case rel => exact ⟨r + 1, T, true, by omega, by go_num, rfl, rfl, hs, HX4⟩
              case measure => (simp [intOf]; try omega)
            · have h3i : (T : Int) ≤ (m : Int) := by omega
              have hs : Hid ((m, true) = W5.curTo d (r + 1)) := by
                exact (HST.out.trans (if_neg (by rintro ⟨_, _, h | h⟩; cases h; exact h3 h))).symm
              clear h2 HST htm hsl htl hml
              go_wp2
              go_roundw
              case rel => exact ⟨r + 1, m, true, by omega, by go_num, rfl, rfl, hs, HX4⟩
              case measure => (simp [intOf]; try omega)
        · rw [decide_eq_false h2]
          have hs : Hid ((m, t) = W5.curTo d (r + 1)) := by
            exact (HST.out.trans (if_neg (by rintro ⟨_, h, _⟩; exact h2 h))).symm
          clear h2 HST
          go_wp2
          go_roundw
          case rel => exact ⟨r + 1, m, t, by omega, by go_num, rfl, rfl, hs, HX4⟩
          case measure => (simp [intOf]; try omega)
      · have h1i : ((r : Int) == (k : Int)) = false := by rw [beq_eq_false_iff_ne]; omega
        have hs : Hid ((m, t) = W5.curTo d (k + 1)) := by
          exact (HST.out.trans (if_neg (by rintro ⟨h, _, _⟩; exact h1 h))).symm
        clear h1 HST
        go_wp2
        go_roundw
        case rel => exact ⟨k + 1, m, t, by omega, by go_num, rfl, rfl, hs, HX2⟩
        case measure => (simp [intOf]; try omega)
    · obtain rfl : k = 2 := by omega
      have HXF := Lib.hid hx.out
      have HM := Lib.hid hmt.out
      clear hx hmt
      go_wp2
      go_ret2
      unfold W5.current
      rw [← HM.out]
      exact ⟨rfl, HXF.out⟩
end Go.Proofs.Ytmcmocakfhedfaa
