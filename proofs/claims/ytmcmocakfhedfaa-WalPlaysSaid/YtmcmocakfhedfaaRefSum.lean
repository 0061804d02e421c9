/- The walk of jetwayref01.Sum: the remainder bit by bit. -/
import Derived.Test.YtmcmocakfhedfaaProg
import Derived.Test.YtmcmocakfhedfaaPlainS
import Derived.Test.YtmcmocakfhedfaaBase
import Derived.Test.YtmcmocakfhedfaaSum
namespace Go.Proofs.Ytmcmocakfhedfaa
open Go.RowKit

theorem S.rst_test (x q : Nat) (f : BitVec 32) : (((x : Int) / 2 ^ q).tmod 2 != (f.toNat : Int) % 2) = ((x / 2 ^ q % 2 == 1) != f.getLsbD 0) := by
  have e1 : ((x : Int) / 2 ^ q) = ((x / 2 ^ q : Nat) : Int) := by simp
  have e2 : (((x / 2 ^ q : Nat) : Int).tmod 2) = ((x / 2 ^ q % 2 : Nat) : Int) := by
    generalize x / 2 ^ q = y
    rw [Int.tmod_eq_emod_of_nonneg (by omega)]; omega
  rw [e1, e2, BitVec.getLsbD, Nat.testBit_zero]
  have h1 : x / 2 ^ q % 2 < 2 := Nat.mod_lt _ (by omega)
  have h2 : f.toNat % 2 < 2 := Nat.mod_lt _ (by omega)
  have e3 : (f.toNat : Int) % 2 = ((f.toNat % 2 : Nat) : Int) := by omega
  rw [e3]
  generalize x / 2 ^ q % 2 = a at *
  generalize f.toNat % 2 = b at *
  match a, b, h1, h2 with
  | 0, 0, _, _ => rfl
  | 0, 1, _, _ => rfl
  | 1, 0, _, _ => rfl
  | 1, 1, _, _ => rfl

set_option maxRecDepth 100000 in
set_option maxHeartbeats 1600000 in
theorem refSum (s : ByteArray) (w : World) (hl : s.size ≤ 9223372036854775807) :
    Calls Try.prog 83 #[.string s] w fun e w' => e = .returned (.int .u32 (S.sum s.data.toList : Int)) ∧ w = w' := by
  go_enter Try.func83, Try.ntmps83
  go_wp2
  go_loop [3, 4] (fun c i => ∃ j : Nat, ∃ e : BitVec 32, j ≤ s.size ∧ Hid (e = S.run (~~~ 0#32) (s.data.toList.take j)) ∧ i = .int .i64 j ∧ c = .int .u32 (e.toNat : Int)) (fun _ i => s.size - (intOf i).toNat)
  case atStart => exact ⟨0, ~~~ 0#32, by omega, rfl, rfl, by rw [show (~~~ 0#32).toNat = 4294967295 from by decide]; rfl⟩
  case round =>
    obtain ⟨j, e, hj, he, rfl, rfl⟩ := hrel
    by_cases hjl : j < s.size
    · have hx := s[j].toNat_lt
      go_wp2
      go_loop [3, 5] (fun c i => ∃ q : Nat, ∃ f : BitVec 32, q ≤ 8 ∧ Hid (f = S.rstN (s[j]).toNat q e) ∧ i = .int .i64 q ∧ c = .int .u32 (f.toNat : Int)) (fun _ i => 8 - (intOf i).toNat)
      case atStart => exact ⟨0, _, by omega, rfl, rfl, rfl⟩
      case round =>
        obtain ⟨q, f, hq, hf, rfl, rfl⟩ := hrel
        by_cases hq8 : q < 8
        · have hfl := f.isLt
          have ht := S.rst_test s[j].toNat q f
          by_cases hb : (s[j].toNat / 2 ^ q % 2 == 1) = f.getLsbD 0
          · have hb2 : (((s[j].toNat : Int) / 2 ^ q).tmod 2 != (f.toNat : Int) % 2) = false := by rw [ht, hb]; simp
            have hf2 : Hid (f >>> 1 = S.rstN (s[j]).toNat (q + 1) e) := by
              show _ = S.rst _ _ _
              unfold S.rst; rw [← hf.out, if_pos hb]
            clear ht hb
            go_wp2
            go_round
            case rel => exact ⟨q + 1, _, by omega, hf2, by go_num, congrArg (Value.int .u32) (S.shr1 f)⟩
            case measure => simp [intOf]; omega
          · have hb2 : (((s[j].toNat : Int) / 2 ^ q).tmod 2 != (f.toNat : Int) % 2) = true := by rw [ht]; simpa using hb
            have hf2 : Hid ((f >>> 1) ^^^ S.poly = S.rstN (s[j]).toNat (q + 1) e) := by
              show _ = S.rst _ _ _
              unfold S.rst; rw [← hf.out, if_neg hb]
            have hv : Hid (Value.int .u32 (bits BinOp.xor IntKind.u32 ((f.toNat : Int) / 2) 3988292384) = .int .u32 (((f >>> 1) ^^^ S.poly).toNat : Int)) := by
              unfold Hid
              rw [S.shr1, ← S.xor32]; rfl
            clear ht hb
            go_wp2
            go_round
            case rel => exact ⟨q + 1, _, by omega, hf2, by go_num, hv.out⟩
            case measure => simp [intOf]; omega
        · have hf2 : Hid (f = S.run (~~~ 0#32) (s.data.toList.take (j + 1))) := by
            unfold Hid; rw [S.run_take _ _ _ (by simpa using hjl), ← he.out, S.by1_rstN, hf.out, show q = 8 by omega]; rfl
          go_wp2
          go_round
          case rel => exact ⟨j + 1, f, by omega, hf2, by go_num, rfl⟩
          case measure => simp [intOf]; omega
    · have hd2 : Hid ((S.sum s.data.toList : Int) = ((~~~ e).toNat : Int)) := by
        unfold Hid; rw [he.out, List.take_of_length_le (by simp; omega)]; rfl
      have hel := e.isLt
      have hn : Hid ((4294967295 : Int) - (e.toNat : Int) = ((~~~ e).toNat : Int)) := by
        unfold Hid; rw [BitVec.toNat_not]; omega
      go_wp2
      go_ret
      exact ⟨by rw [hd2.out, ← hn.out]; rfl, rfl⟩
end Go.Proofs.Ytmcmocakfhedfaa
