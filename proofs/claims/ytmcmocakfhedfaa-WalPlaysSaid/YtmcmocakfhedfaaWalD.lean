/- wal.following: the number behind all of which a disk tells. -/
import Derived.Test.YtmcmocakfhedfaaWalC
import Derived.Laws.Bits64b
namespace Go.Proofs.Ytmcmocakfhedfaa
open Go.RowKit

/-- A sector that is read: 512 bytes of its own. -/
theorem held_sec {w0 w : World} {X : Nat → Prop} {p : Nat} {d : D.Dsk} (h : Held w0 w X p d) (hdn : d.down = false) (i : Int) (h1 : 0 ≤ i) (h2 : i < d.n) :
    Calls Try.prog 24 #[.pointer (some ⟨p, 0, none⟩), .int .i64 i] w fun e w' => ∃ b cap, e = .returned (.tuple #[.slice (some ⟨b, 0, none⟩) 512 cap, .int .i64 0]) ∧ 512 ≤ cap ∧ cap ≤ maxLen ∧ w.heap.size ≤ b ∧
      Bs w' (.slice (some ⟨b, 0, none⟩) 512 cap) (D.sector d i) ∧ w'.ownsRow w.heap.size 98 1 (.slice (some ⟨b, 0, none⟩) 512 cap) 512 ((D.sector d i).map byteVal) ∧ Ext w w' ∧ w'.cell? ⟨b, 0, none⟩ = some (.int .u8 (((D.sector d i).headD 0).toNat : Int)) := by
  have hre : D.readE d i = 0 := by
    unfold D.readE; rw [if_neg (by omega), hdn]; rfl
  have hrb : D.readB d i = D.sector d i := by
    unfold D.readB; rw [if_neg (by omega), hdn]; rfl
  have hl := sector_len h.okd i
  refine (held_read h i).mono ?_
  rintro e w2 ⟨v, rfl, hown, hx2⟩
  rw [hre]
  rw [hrb, hl] at hown
  obtain ⟨b, cap, rfl, hb, _, hc1, hc2, hcc⟩ := own_open hown (by decide)
  refine ⟨b, cap, rfl, hc1, hc2, hb, ?_, hown, hx2, ?_⟩
  · have := Bs.of_own (l := D.sector d i) (n := 512) hown
    rw [← hl] at this ⊢; exact this
  · rw [hcc 0 (by decide)]
    rcases hs : D.sector d i with _ | ⟨x, t⟩
    · rw [hs] at hl; cases hl
    · rfl

theorem tells_eq (B : List UInt8) : W5.tells B = decide (((B.headD 0).toNat = 1 ∨ (B.headD 0).toNat = 2) ∧ B = W5.sealed (B.take 508)) := by
  unfold W5.tells
  generalize B.headD 0 = x
  rw [Bool.eq_iff_iff]
  simp only [Bool.and_eq_true, Bool.or_eq_true, beq_iff_eq, decide_eq_true_eq]
  have e (k : UInt8) : x = k ↔ x.toNat = k.toNat := UInt8.toNat_inj.symm
  rw [e 1, e 2]; rfl
theorem xor_and_one (m g : Nat) (hm : m < 4294967296) (hg : g < 4294967296) : bits BinOp.and IntKind.u64 (bits BinOp.xor IntKind.u64 (m : Int) (g : Int)) 1 = (if m % 2 = g % 2 then (0 : Nat) else 1 : Nat) := by
  have hx : m ^^^ g < 2 ^ 64 := Nat.xor_lt_two_pow (by omega) (by omega)
  have e1 : (BitVec.ofInt 64 (m : Int)).toNat = m := by
    rw [BitVec.ofInt_natCast, BitVec.toNat_ofNat]; exact Nat.mod_eq_of_lt (by omega)
  have e2 : (BitVec.ofInt 64 (g : Int)).toNat = g := by
    rw [BitVec.ofInt_natCast, BitVec.toNat_ofNat]; exact Nat.mod_eq_of_lt (by omega)
  have h1 : bits BinOp.xor IntKind.u64 (m : Int) (g : Int) = ((m ^^^ g : Nat) : Int) := by
    show IntKind.u64.wrap ((BitVec.ofInt 64 (m : Int) ^^^ BitVec.ofInt 64 (g : Int)).toNat : Int) = _
    rw [BitVec.toNat_xor, e1, e2, IntKind.wrap_u64]
    omega
  rw [h1, show (1 : Int) = ((1 : Nat) : Int) from rfl, bits_and_u64_nat _ _ (by omega) (by decide)]
  congr 1
  rw [Nat.and_one_is_mod, show (m ^^^ g) % 2 = (m % 2) ^^^ (g % 2) from by have := @Nat.xor_mod_two_pow m g 1; simpa using this]
  rcases Nat.mod_two_eq_zero_or_one m with a | a <;> rcases Nat.mod_two_eq_zero_or_one g with b | b <;> rw [a, b] <;> rfl

set_option maxRecDepth 100000 in
set_option maxHeartbeats 3200000 in
theorem following_any {w0 w : World} {X : Nat → Prop} {p : Nat} {d : D.Dsk} (h : Held w0 w X p d) (hdn : d.down = false) (gen : Nat) (hg : gen < 4294967296) :
    Calls Try.prog 47 #[.pointer (some ⟨p, 0, none⟩), .int .u32 (gen : Int)] w fun e w' => e = .returned (.int .u64 (W5.following d gen : Int)) ∧ Ext w w' := by
  have HD := Lib.hid h
  have hok := h.okd
  have hn1 := hok.n1
  have hn2 := hok.n2
  clear h
  have hgi : (gen : Int) < 4294967296 := by omega
  go_enter Try.func47, Try.ntmps47
  go_wp2_with fail
  refine (held_size HD.out).mono ?_
  rintro e w1 ⟨rfl, rfl⟩
  go_wp2
  go_loopw [5, 15] (fun mv iv wr => ∃ k m : Nat, (k : Int) ≤ d.n ∧ iv = .int .i64 (k : Int) ∧ mv = .int .u64 (m : Int) ∧ Hid (m = W5.folTo d gen k) ∧ Hid (Ext w wr)) (fun _ iv _ => d.n.toNat - (intOf iv).toNat)
  case atStart => exact ⟨0, gen, by omega, rfl, rfl, rfl, Ext.refl w⟩
  case round =>
    obtain ⟨k, m, hk, rfl, rfl, hmt, hx⟩ := hrel
    have hml : m < 4294967296 := by have := W5.folTo_lt d gen hg k; rw [← hmt.out] at this; exact this
    by_cases hlt : (k : Int) < d.n
    · have hst := W5.folTo_succ d gen k
      rw [← hmt.out, tells_eq] at hst
      go_wp2_with fail
      refine (held_sec (HD.out.after_ext hx.out) hdn (k : Int) (by omega) hlt).mono ?_
      rintro e w2 ⟨b, cap, rfl, hcap1, hcap2, hb, hbs, -, hx2, hcell⟩
      have HX2 := Lib.hid (hx.out.trans hx2)
      have HB := Lib.hid hbs
      have hsl := sector_len hok (k : Int)
      clear hbs hx2 hx hb
      generalize D.sector d (k : Int) = B at *
      have htl := W5.told_lt B
      have htd : (W.get B 1 4).1 = W5.told B := rfl
      have HTD := Lib.hid htd
      clear htd
      generalize W5.told B = T at *
      generalize hxe : (B.headD 0).toNat = x at *
      have HST := Lib.hid hst
      clear hst hxe
      have hx2 : x = 1 ∨ x = 2 ∨ (x ≠ 1 ∧ x ≠ 2) := by omega
      have ht := Bs.take HB.out 508 (by decide)
      unfold maxLen at hcap2
      have hcp : ¬ cap < 508 := by omega
      clear hcap1 hcap2
      rcases hx2 with rfl | rfl | ⟨n1, n2⟩
      · have hxx : (1 = 1 ∨ (1 : Nat) = 2) := by decide
        go_wp2_with fail
        refine (sealed_any _ _ w2 ht (by rw [List.length_take]; omega)).mono ?_
        rintro e w4 ⟨v4, rfl, hown4, hx4⟩
        have HX4 := Lib.hid (HX2.out.trans hx4)
        have hq := equal_any _ v4 B _ w4 (HB.out.ext hx4) (Bs.of_own hown4)
        have hga := get_any _ B 1 4 w4 (HB.out.ext hx4) (by omega)
        have HQ := Lib.hid hq
        clear hq hown4 hx4
        have hT : (W.get B 1 4).1 = T := HTD.out
        rw [hT] at hga
        have HGA := Lib.hid hga
        clear hga hT
        go_wp2_with fail
        refine HQ.out.mono ?_
        clear HQ
        rintro e w5 ⟨rfl, rfl⟩
        by_cases h2 : B = W5.sealed (B.take 508)
        · rw [decide_eq_true h2]
          have hs : Hid (max m T = W5.folTo d gen (k + 1)) := (HST.out.trans (if_pos (decide_eq_true ⟨hxx, h2⟩))).symm
          clear h2 HST ht
          go_wp2_with fail
          refine HGA.out.mono ?_
          clear HGA
          rintro e w6 ⟨rfl, rfl⟩
          by_cases hmT : m < T
          · rw [Nat.max_eq_right (by omega)] at hs
            go_wp2
            go_roundw
            case rel => exact ⟨k + 1, T, by omega, by go_num, rfl, hs, HX4⟩
            case measure => (simp [intOf]; try omega)
          · rw [Nat.max_eq_left (by omega)] at hs
            go_wp2
            go_roundw
            case rel => exact ⟨k + 1, m, by omega, by go_num, rfl, hs, HX4⟩
            case measure => (simp [intOf]; try omega)
        · rw [decide_eq_false h2]
          have hs : Hid (m = W5.folTo d gen (k + 1)) := (HST.out.trans (if_neg (by rw [decide_eq_true_eq]; exact fun h => h2 h.2))).symm
          clear h2 HST ht HGA
          go_wp2
          go_roundw
          case rel => exact ⟨k + 1, m, by omega, by go_num, rfl, hs, HX4⟩
          case measure => (simp [intOf]; try omega)
      · have hxx : (2 = 1 ∨ (2 : Nat) = 2) := by decide
        go_wp2_with fail
        refine (sealed_any _ _ w2 ht (by rw [List.length_take]; omega)).mono ?_
        rintro e w4 ⟨v4, rfl, hown4, hx4⟩
        have HX4 := Lib.hid (HX2.out.trans hx4)
        have hq := equal_any _ v4 B _ w4 (HB.out.ext hx4) (Bs.of_own hown4)
        have hga := get_any _ B 1 4 w4 (HB.out.ext hx4) (by omega)
        have HQ := Lib.hid hq
        clear hq hown4 hx4
        have hT : (W.get B 1 4).1 = T := HTD.out
        rw [hT] at hga
        have HGA := Lib.hid hga
        clear hga hT
        go_wp2_with fail
        refine HQ.out.mono ?_
        clear HQ
        rintro e w5 ⟨rfl, rfl⟩
        by_cases h2 : B = W5.sealed (B.take 508)
        · rw [decide_eq_true h2]
          have hs : Hid (max m T = W5.folTo d gen (k + 1)) := (HST.out.trans (if_pos (decide_eq_true ⟨hxx, h2⟩))).symm
          clear h2 HST ht
          go_wp2_with fail
          refine HGA.out.mono ?_
          clear HGA
          rintro e w6 ⟨rfl, rfl⟩
          by_cases hmT : m < T
          · rw [Nat.max_eq_right (by omega)] at hs
            go_wp2
            go_roundw
            case rel => exact ⟨k + 1, T, by omega, by go_num, rfl, hs, HX4⟩
            case measure => (simp [intOf]; try omega)
          · rw [Nat.max_eq_left (by omega)] at hs
            go_wp2
            go_roundw
            case rel => exact ⟨k + 1, m, by omega, by go_num, rfl, hs, HX4⟩
            case measure => (simp [intOf]; try omega)
        · rw [decide_eq_false h2]
          have hs : Hid (m = W5.folTo d gen (k + 1)) := (HST.out.trans (if_neg (by rw [decide_eq_true_eq]; exact fun h => h2 h.2))).symm
          clear h2 HST ht HGA
          go_wp2
          go_roundw
          case rel => exact ⟨k + 1, m, by omega, by go_num, rfl, hs, HX4⟩
          case measure => (simp [intOf]; try omega)
      · have hs : Hid (m = W5.folTo d gen (k + 1)) := (HST.out.trans (if_neg (by rw [decide_eq_true_eq]; exact fun h => h.1.elim n1 n2))).symm
        have n3 : ((x : Int) == 1) = false := by rw [beq_eq_false_iff_ne]; omega
        have n4 : ((x : Int) == 2) = false := by rw [beq_eq_false_iff_ne]; omega
        clear HST ht n1 n2
        go_wp2
        go_roundw
        case rel => exact ⟨k + 1, m, by omega, by go_num, rfl, hs, HX2⟩
        case measure => (simp [intOf]; try omega)
    · have HXF := Lib.hid hx.out
      have hkn : k = d.n.toNat := by omega
      have hfo : Hid (W5.following d gen = m + 1 + (if m % 2 = gen % 2 then 0 else 1)) := by unfold W5.following; rw [← hkn, ← hmt.out]; rfl
      have HXA := Lib.hid (xor_and_one m gen hml hg)
      clear hx hmt hkn hok
      go_wp2
      go_ret
      rw [hfo.out]
      refine ⟨?_, HXF.out⟩
      rw [HXA.out]
      show Ending.returned (.int .u64 (IntKind.u64.wrap ((m : Int) + 1 + ((if m % 2 = gen % 2 then (0 : Nat) else 1 : Nat) : Int)))) = _
      congr 2
      rw [IntKind.wrap_u64]
      split <;> omega
end Go.Proofs.Ytmcmocakfhedfaa
