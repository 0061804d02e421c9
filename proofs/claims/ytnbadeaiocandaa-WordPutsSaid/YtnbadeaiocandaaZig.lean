/- The walks of word.Zig, word.Zag and jetwayref01.Zig: a number with a sign as one without, and back. -/
import Derived.Test.YtnbadeaiocandaaProg
import Derived.Test.YtnbadeaiocandaaPlainW
import Derived.Test.YtnbadeaiocandaaBase
namespace Go.Proofs.Ytnbadeaiocandaa
open Go.RowKit

namespace W
def zig (n : Int) : Int := if 0 ≤ n then 2 * n else -2 * n - 1
def zag (m : Int) : Int := if m % 2 = 0 then m / 2 else -(m / 2) - 1
theorem zag_zig (n : Int) : zag (zig n) = n := by unfold zag zig; split <;> split <;> omega
theorem zig_zag (m : Int) (h : 0 ≤ m) : zig (zag m) = m := by unfold zag zig; split <;> split <;> omega
theorem xor_ones (a : Nat) (ha : a < 18446744073709551616) : a ^^^ 18446744073709551615 = 18446744073709551615 - a := by
  have h : (BitVec.ofNat 64 a ^^^ BitVec.allOnes 64).toNat = (~~~ (BitVec.ofNat 64 a)).toNat := by rw [BitVec.xor_allOnes]
  rw [BitVec.toNat_xor, BitVec.toNat_not, BitVec.toNat_ofNat, BitVec.toNat_allOnes, Nat.mod_eq_of_lt (by omega)] at h
  simpa using h
theorem zig_bits (n : Int) (h1 : -9223372036854775808 ≤ n) (h2 : n ≤ 9223372036854775807) :
    bits BinOp.xor IntKind.u64 (IntKind.u64.wrap (IntKind.u64.wrap n * 2)) (IntKind.u64.wrap (n / 9223372036854775808)) = zig n := by
  unfold zig
  rw [IntKind.wrap_u64, IntKind.wrap_u64, IntKind.wrap_u64]
  by_cases h : 0 ≤ n
  · have e1 : (n % 18446744073709551616 * 2) % 18446744073709551616 = ((2 * n.toNat : Nat) : Int) := by omega
    have e2 : (n / 9223372036854775808) % 18446744073709551616 = ((0 : Nat) : Int) := by omega
    rw [if_pos h, e1, e2, bits_xor_u64_nat _ _ (by omega) (by omega), Nat.xor_zero]; omega
  · have e1 : (n % 18446744073709551616 * 2) % 18446744073709551616 = (((2 * n + 18446744073709551616).toNat : Nat) : Int) := by omega
    have e2 : (n / 9223372036854775808) % 18446744073709551616 = ((18446744073709551615 : Nat) : Int) := by omega
    rw [if_neg h, e1, e2, bits_xor_u64_nat _ _ (by omega) (by omega), xor_ones _ (by omega)]; omega
theorem zag_bits (m : Int) (h1 : 0 ≤ m) (h2 : m < 18446744073709551616) :
    bits BinOp.xor IntKind.i64 (m / 2) (wrap64 (-wrap64 (bits BinOp.and IntKind.u64 m 1))) = zag m := by
  obtain ⟨k, rfl⟩ := Int.eq_ofNat_of_zero_le h1
  have e1 : bits BinOp.and IntKind.u64 (k : Int) 1 = ((k % 2 : Nat) : Int) := by
    rw [show (1 : Int) = ((1 : Nat) : Int) from rfl, bits_and_u64_nat _ _ (by omega) (by omega), Nat.and_one_is_mod]
  rw [e1]
  unfold zag
  have e3 : BitVec.ofInt 64 ((k : Int) / 2) = BitVec.ofNat 64 (k / 2) := by
    rw [show ((k : Int) / 2) = ((k / 2 : Nat) : Int) by omega, BitVec.ofInt_natCast]
  by_cases h : (k : Int) % 2 = 0
  · have e2 : ((k % 2 : Nat) : Int) = 0 := by omega
    rw [e2, if_pos h]
    show IntKind.i64.wrap ((BitVec.ofInt 64 ((k : Int) / 2) ^^^ BitVec.ofInt 64 (wrap64 (-wrap64 0))).toNat : Int) = _
    rw [show BitVec.ofInt 64 (wrap64 (-wrap64 0)) = 0#64 from by unfold wrap64; decide, e3, BitVec.xor_zero, BitVec.toNat_ofNat, Nat.mod_eq_of_lt (by omega), IntKind.wrap_i64]; omega
  · have e2 : ((k % 2 : Nat) : Int) = 1 := by omega
    rw [e2, if_neg h]
    show IntKind.i64.wrap ((BitVec.ofInt 64 ((k : Int) / 2) ^^^ BitVec.ofInt 64 (wrap64 (-wrap64 1))).toNat : Int) = _
    rw [show BitVec.ofInt 64 (wrap64 (-wrap64 1)) = BitVec.allOnes 64 from by unfold wrap64; decide, e3, BitVec.xor_allOnes, BitVec.toNat_not, BitVec.toNat_ofNat, Nat.mod_eq_of_lt (by omega), IntKind.wrap_i64]; omega
end W

set_option maxRecDepth 100000 in
theorem zig_any (n : Int) (w : World) (h1 : -9223372036854775808 ≤ n) (h2 : n ≤ 9223372036854775807) :
    Calls Try.prog 18 #[.int .i64 n] w fun e w' => e = .returned (.int .u64 (W.zig n)) ∧ w = w' := by
  go_enter Try.func18, Try.ntmps18
  go_wp2
  go_ret
  exact ⟨congrArg (fun x => Ending.returned (.int .u64 x)) (W.zig_bits n h1 h2), rfl⟩

set_option maxRecDepth 100000 in
theorem zag_any (m : Int) (w : World) (h1 : 0 ≤ m) (h2 : m < 18446744073709551616) :
    Calls Try.prog 20 #[.int .u64 m] w fun e w' => e = .returned (.int .i64 (W.zag m)) ∧ w = w' := by
  go_enter Try.func20, Try.ntmps20
  go_wp2
  go_ret
  exact ⟨congrArg (fun x => Ending.returned (.int .i64 x)) (W.zag_bits m h1 h2), rfl⟩

set_option maxRecDepth 100000 in
theorem refZig (n : Int) (w : World) (h1 : -9223372036854775808 ≤ n) (h2 : n ≤ 9223372036854775807) :
    Calls Try.prog 19 #[.int .i64 n] w fun e w' => e = .returned (.int .u64 (W.zig n)) ∧ w = w' := by
  by_cases h : 0 ≤ n
  · have hz : Hid (W.zig n = n * 2) := by unfold Hid W.zig; rw [if_pos h]; omega
    go_enter Try.func19, Try.ntmps19
    go_wp2
    go_ret
    exact ⟨congrArg (fun x => Ending.returned (.int .u64 x)) hz.out.symm, rfl⟩
  · have hz : Hid (W.zig n = (-(n + 1)) * 2 + 1) := by unfold Hid W.zig; rw [if_neg h]; omega
    go_enter Try.func19, Try.ntmps19
    go_wp2
    go_ret
    exact ⟨congrArg (fun x => Ending.returned (.int .u64 x)) hz.out.symm, rfl⟩
end Go.Proofs.Ytnbadeaiocandaa
