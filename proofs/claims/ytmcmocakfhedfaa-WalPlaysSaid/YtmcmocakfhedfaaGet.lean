/- The walks of word.Get and jetwayref01.Get: the number at a place. -/
import Derived.Test.YtmcmocakfhedfaaProg
import Derived.Test.YtmcmocakfhedfaaPlainW
import Derived.Test.YtmcmocakfhedfaaBase
namespace Go.Proofs.Ytmcmocakfhedfaa
open Go.RowKit

namespace W
/-- The number that bytes are, the highest first. -/
def num (l : List UInt8) : Nat := l.foldl (fun n x => n * 256 + x.toNat) 0
theorem num_snoc (l : List UInt8) (x : UInt8) : num (l ++ [x]) = num l * 256 + x.toNat := by simp [num]
theorem numF_lt (l : List UInt8) (a : Nat) : l.foldl (fun n x => n * 256 + x.toNat) a < (a + 1) * 256 ^ l.length := by
  induction l generalizing a with
  | nil => simp
  | cons x l ih =>
    have h := ih (a * 256 + x.toNat)
    have hx := x.toNat_lt
    have h2 : (a * 256 + x.toNat + 1) * 256 ^ l.length ≤ ((a + 1) * 256) * 256 ^ l.length := Nat.mul_le_mul_right _ (by omega)
    rw [List.foldl_cons, List.length_cons, Nat.pow_succ, Nat.mul_comm (256 ^ l.length), ← Nat.mul_assoc]
    omega
theorem num_lt (l : List UInt8) : num l < 256 ^ l.length := by simpa [num] using numF_lt l 0
theorem num_lt8 (l : List UInt8) (h : l.length ≤ 8) : num l < 18446744073709551616 := by
  have h1 := num_lt l
  have h2 : (256 : Nat) ^ l.length ≤ 256 ^ 8 := Nat.pow_le_pow_right (by omega) h
  have h3 : (256 : Nat) ^ 8 = 18446744073709551616 := by decide
  omega
theorem num_lt7 (l : List UInt8) (h : l.length ≤ 7) : num l < 72057594037927936 := by
  have h1 := num_lt l
  have h2 : (256 : Nat) ^ l.length ≤ 256 ^ 7 := Nat.pow_le_pow_right (by omega) h
  have h3 : (256 : Nat) ^ 7 = 72057594037927936 := by decide
  omega
/-- The answer: the number and the error's number. -/
def get (l : List UInt8) (at_ size : Int) : Nat × Nat :=
  if size < 1 ∨ 8 < size ∨ at_ < 0 then (0, 1) else if (l.length : Int) < size ∨ (l.length : Int) - size < at_ then (0, 5)
  else (num ((l.drop at_.toNat).take size.toNat), 0)
theorem get_range (l : List UInt8) (a s : Int) (h : s < 1 ∨ 8 < s ∨ a < 0) : get l a s = (0, 1) := by simp [get, h]
theorem get_short (l : List UInt8) (a s : Int) (h : ¬ (s < 1 ∨ 8 < s ∨ a < 0)) (h2 : (l.length : Int) < s ∨ (l.length : Int) - s < a) : get l a s = (0, 5) := by
  unfold get; rw [if_neg h, if_pos h2]
theorem get_ok (l : List UInt8) (a s : Int) (h : ¬ (s < 1 ∨ 8 < s ∨ a < 0)) (h2 : ¬ ((l.length : Int) < s ∨ (l.length : Int) - s < a)) : get l a s = (num ((l.drop a.toNat).take s.toNat), 0) := by
  unfold get; rw [if_neg h, if_neg h2]
/-- 'n<<8 | uint64(x)'. -/
theorem or8 (n : Nat) (x : UInt8) (hn : n < 72057594037927936) : bits BinOp.or IntKind.u64 ((n : Int) * 256) (x.toNat : Int) = ((n * 256 + x.toNat : Nat) : Int) := by
  have hx := x.toNat_lt
  have e : ((n : Int) * 256) = ((n * 256 : Nat) : Int) := by omega
  rw [e, bits_or_u64_nat _ _ (by omega) (by omega)]
  congr 1
  have h := add_mul_or x.toNat n 8 (by omega)
  rw [Nat.or_comm, show (256 : Nat) = 2 ^ 8 from rfl, h]; omega
theorem take_snoc (l : List UInt8) (a k : Nat) (h : a + k < l.length) : (l.drop a).take (k + 1) = (l.drop a).take k ++ [l[a + k]] := by
  rw [List.take_succ_eq_append_getElem (by simp; omega)]; simp
end W

set_option maxRecDepth 100000 in
set_option maxHeartbeats 800000 in
theorem get_range (v : Value) (l : List UInt8) (at_ size : Int) (w : World) (h : Bs w v l) (h1 : size < 1 ∨ 8 < size ∨ at_ < 0) :
    Calls Try.prog 67 #[v, .int .i64 at_, .int .i64 size] w fun e w' => e = .returned (.tuple #[.int .u64 ((W.get l at_ size).1 : Int), .int .i64 ((W.get l at_ size).2 : Int)]) ∧ w = w' := by
  have hg : Hid (W.get l at_ size = (0, 1)) := W.get_range _ _ _ h1
  obtain ⟨a, cap, rfl⟩ := h.shape
  have fin : Ending.returned (.tuple #[.int .u64 0, .int .i64 1]) = Ending.returned (.tuple #[.int .u64 ((W.get l at_ size).1 : Int), .int .i64 ((W.get l at_ size).2 : Int)]) := by rw [hg.out]; rfl
  have FIN := Lib.hid fin
  clear fin h
  by_cases c1 : size < 1
  · clear h1
    go_enter Try.func67, Try.ntmps67
    go_wp2
    go_ret2
    exact ⟨FIN.out, rfl⟩
  · by_cases c2 : 8 < size
    · clear h1
      go_enter Try.func67, Try.ntmps67
      go_wp2
      go_ret2
      exact ⟨FIN.out, rfl⟩
    · have c3 : at_ < 0 := by omega
      clear h1
      go_enter Try.func67, Try.ntmps67
      go_wp2
      go_ret2
      exact ⟨FIN.out, rfl⟩

set_option maxRecDepth 100000 in
set_option maxHeartbeats 800000 in
theorem get_short (v : Value) (l : List UInt8) (at_ size : Int) (w : World) (h : Bs w v l) (hat : at_ ≤ 9223372036854775807) (h1 : ¬ (size < 1 ∨ 8 < size ∨ at_ < 0)) (h2 : (l.length : Int) < size ∨ (l.length : Int) - size < at_) :
    Calls Try.prog 67 #[v, .int .i64 at_, .int .i64 size] w fun e w' => e = .returned (.tuple #[.int .u64 ((W.get l at_ size).1 : Int), .int .i64 ((W.get l at_ size).2 : Int)]) ∧ w = w' := by
  have hg : Hid (W.get l at_ size = (0, 5)) := W.get_short _ _ _ h1 h2
  obtain ⟨a, cap, rfl⟩ := h.shape
  have fin : Ending.returned (.tuple #[.int .u64 0, .int .i64 5]) = Ending.returned (.tuple #[.int .u64 ((W.get l at_ size).1 : Int), .int .i64 ((W.get l at_ size).2 : Int)]) := by rw [hg.out]; rfl
  have FIN := Lib.hid fin
  clear fin
  have hl := h.length_le
  clear h
  have c1 : 1 ≤ size := by omega
  have c2 : size ≤ 8 := by omega
  have c3 : 0 ≤ at_ := by omega
  clear h1
  by_cases c4 : (l.length : Int) < size
  · clear h2
    go_enter Try.func67, Try.ntmps67
    go_wp2
    go_ret2
    exact ⟨FIN.out, rfl⟩
  · have c5 : (l.length : Int) - size < at_ := by omega
    clear h2
    go_enter Try.func67, Try.ntmps67
    go_wp2
    go_ret2
    exact ⟨FIN.out, rfl⟩

set_option maxRecDepth 100000 in
set_option maxHeartbeats 800000 in
theorem get_ok (b off cap : Nat) (l : List UInt8) (at_ size : Nat) (w : World) (hcap : l.length ≤ cap) (hcm : cap ≤ 9223372036854775807)
    (h1 : 1 ≤ size) (h8 : size ≤ 8) (h2 : at_ + size ≤ l.length)
    (hc : Hid (∀ i (h : i < l.length), w.cell? ⟨b, off + i, none⟩ = some (.int .u8 (l[i].toNat : Int)))) :
    Calls Try.prog 67 #[.slice (some ⟨b, off, none⟩) l.length cap, .int .i64 at_, .int .i64 size] w fun e w' => e = .returned (.tuple #[.int .u64 ((W.num ((l.drop at_).take size) : Nat) : Int), .int .i64 0]) ∧ w = w' := by
  have hl : l.length ≤ 9223372036854775807 := by omega
  have b1 : decide ((size : Int) < 1) = false := by simp; omega
  have b2 : decide (8 < (size : Int)) = false := by simp; omega
  have b3 : decide ((at_ : Int) < 0) = false := by simp
  have b4 : decide (l.length < size) = false := by simp; omega
  have b5 : decide ((l.length : Int) - (size : Int) < (at_ : Int)) = false := by simp; omega
  go_enter Try.func67, Try.ntmps67
  go_wp2
  go_loop [8, 40] (fun nv iv => ∃ k m : Nat, k ≤ size ∧ Hid (m = W.num ((l.drop at_).take k)) ∧ nv = .int .u64 m ∧ iv = .int .i64 k) (fun _ iv => size - (intOf iv).toNat)
  case atStart => exact ⟨0, 0, by omega, rfl, rfl, rfl⟩
  case round =>
    obtain ⟨k, m, hk, hm, rfl, rfl⟩ := hrel
    by_cases hks : k < size
    · have hcell := hc.out (at_ + k) (by omega)
      rw [← Nat.add_assoc] at hcell
      have hm7 : m < 72057594037927936 := by rw [hm.out]; exact W.num_lt7 _ (by simp; omega)
      have hx := (l[at_ + k]'(by omega)).toNat_lt
      have hn2 : Hid (m * 256 + (l[at_ + k]'(by omega)).toNat = W.num ((l.drop at_).take (k + 1))) := by
        unfold Hid; rw [W.take_snoc l at_ k (by omega), W.num_snoc, ← hm.out]
      go_wp2
      go_round
      case rel => exact ⟨k + 1, _, by omega, hn2, congrArg (Value.int .u64) (W.or8 m _ hm7), by go_num⟩
      case measure => simp [intOf]; omega
    · have hfin : Hid (W.num ((l.drop at_).take size) = m) := by rw [hm.out, show k = size by omega]; rfl
      go_wp2
      go_ret2
      exact ⟨by rw [hfin.out]; rfl, rfl⟩

theorem get_any (v : Value) (l : List UInt8) (at_ size : Int) (w : World) (h : Bs w v l) (hat : at_ ≤ 9223372036854775807) :
    Calls Try.prog 67 #[v, .int .i64 at_, .int .i64 size] w fun e w' => e = .returned (.tuple #[.int .u64 ((W.get l at_ size).1 : Int), .int .i64 ((W.get l at_ size).2 : Int)]) ∧ w = w' := by
  by_cases h1 : size < 1 ∨ 8 < size ∨ at_ < 0
  · exact get_range v l at_ size w h h1
  · by_cases h2 : (l.length : Int) < size ∨ (l.length : Int) - size < at_
    · exact get_short v l at_ size w h hat h1 h2
    · rw [W.get_ok _ _ _ h1 h2]
      rcases h.open with ⟨a, cap, rfl, rfl, _⟩ | ⟨b, off, cap, rfl, hp, hlc, hcm, hb, hc⟩
      · simp at h2; omega
      · unfold maxLen at hcm
        have := get_ok b off cap l at_.toNat size.toNat w hlc (by omega) (by omega) (by omega) (by omega) hc
        rw [Int.toNat_of_nonneg (by omega), Int.toNat_of_nonneg (by omega)] at this
        exact this

set_option maxRecDepth 100000 in
set_option maxHeartbeats 800000 in
theorem refGet_range (s : ByteArray) (at_ size : Int) (w : World) (h1 : size < 1 ∨ 8 < size ∨ at_ < 0) :
    Calls Try.prog 84 #[.string s, .int .i64 at_, .int .i64 size] w fun e w' => e = .returned (.tuple #[.int .u64 0, .int .i64 1]) ∧ w = w' := by
  by_cases c1 : size < 1
  · clear h1
    go_enter Try.func84, Try.ntmps84
    go_wp2
    go_ret2
    exact ⟨rfl, rfl⟩
  · by_cases c2 : 8 < size
    · clear h1
      go_enter Try.func84, Try.ntmps84
      go_wp2
      go_ret2
      exact ⟨rfl, rfl⟩
    · have c3 : at_ < 0 := by omega
      clear h1
      go_enter Try.func84, Try.ntmps84
      go_wp2
      go_ret2
      exact ⟨rfl, rfl⟩

set_option maxRecDepth 100000 in
set_option maxHeartbeats 800000 in
theorem refGet_in (s : ByteArray) (at_ size : Nat) (w : World) (hl : s.size ≤ 9223372036854775807) (h1 : 1 ≤ size) (h8 : size ≤ 8) (hat : at_ ≤ 9223372036854775807) :
    Calls Try.prog 84 #[.string s, .int .i64 at_, .int .i64 size] w fun e w' => e = .returned (.tuple #[.int .u64 ((W.get s.data.toList at_ size).1 : Int), .int .i64 ((W.get s.data.toList at_ size).2 : Int)]) ∧ w = w' := by
  have b1 : decide ((size : Int) < 1) = false := by simp; omega
  have b2 : decide (8 < (size : Int)) = false := by simp; omega
  have b3 : decide ((at_ : Int) < 0) = false := by simp
  have hsz : s.data.toList.length = s.size := by simp
  have hshort : Hid (s.size < at_ + size → W.get s.data.toList at_ size = (0, 5)) := fun h => W.get_short _ _ _ (by omega) (by omega)
  have hok : Hid (¬ s.size < at_ + size → W.get s.data.toList at_ size = (W.num ((s.data.toList.drop at_).take size), 0)) := fun h => by
    rw [W.get_ok _ _ _ (by omega) (by omega)]; simp
  have HS := Lib.hid hsz
  clear hsz
  go_enter Try.func84, Try.ntmps84
  go_wp2
  go_loop [8, 9] (fun nv iv => ∃ k m : Nat, k ≤ size ∧ (k = 0 ∨ at_ + k ≤ s.size) ∧ Hid (m = W.num ((s.data.toList.drop at_).take k)) ∧ nv = .int .u64 m ∧ iv = .int .i64 k) (fun _ iv => size - (intOf iv).toNat)
  case atStart => exact ⟨0, 0, by omega, .inl rfl, rfl, rfl, rfl⟩
  case round =>
    obtain ⟨k, m, hk, hks, hm, rfl, rfl⟩ := hrel
    have HK := Lib.hid hks
    clear hks
    by_cases hks : k < size
    · by_cases hat2 : (s.size : Int) - (k : Int) ≤ (at_ : Int)
      · have hfin : Hid (W.get s.data.toList at_ size = (0, 5)) := hshort.out (by omega)
        go_wp2
        go_ret2
        exact ⟨by rw [hfin.out]; rfl, rfl⟩
      · have hm7 : m < 72057594037927936 := by rw [hm.out]; exact W.num_lt7 _ (by simp; omega)
        have hlt : at_ + k < s.size := by omega
        have hx := (s[at_ + k]).toNat_lt
        have hn2 : Hid (m * 256 + (s[at_ + k]).toNat = W.num ((s.data.toList.drop at_).take (k + 1))) := by
          unfold Hid; rw [W.take_snoc _ at_ k (by have := HS.out; omega), W.num_snoc, ← hm.out]; rfl
        go_wp2
        go_round
        case rel => exact ⟨k + 1, _, by omega, .inr (by omega), hn2, by go_num, by go_num⟩
        case measure => simp [intOf]; omega
    · have hfin : Hid (W.get s.data.toList at_ size = (m, 0)) := by
        unfold Hid
        rw [hok.out (by have := HK.out; omega), hm.out, show k = size by omega]
      go_wp2
      go_ret2
      exact ⟨by rw [hfin.out]; rfl, rfl⟩

theorem refGet (s : ByteArray) (at_ size : Int) (w : World) (hl : s.size ≤ 9223372036854775807) (hat : at_ ≤ 9223372036854775807) :
    Calls Try.prog 84 #[.string s, .int .i64 at_, .int .i64 size] w fun e w' => e = .returned (.tuple #[.int .u64 ((W.get s.data.toList at_ size).1 : Int), .int .i64 ((W.get s.data.toList at_ size).2 : Int)]) ∧ w = w' := by
  by_cases h1 : size < 1 ∨ 8 < size ∨ at_ < 0
  · rw [W.get_range _ _ _ h1]; exact refGet_range s at_ size w h1
  · have := refGet_in s at_.toNat size.toNat w hl (by omega) (by omega) (by omega)
    rw [Int.toNat_of_nonneg (by omega), Int.toNat_of_nonneg (by omega)] at this
    exact this
end Go.Proofs.Ytmcmocakfhedfaa
