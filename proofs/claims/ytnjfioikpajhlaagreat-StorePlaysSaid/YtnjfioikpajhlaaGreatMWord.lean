/- MWord: Put Get Sum Var ReadVar AppStr. -/
import Derived.Test.YtnjfioikpajhlaaGreatProg
import Derived.Test.YtnjfioikpajhlaaGreatMPlain
import Derived.Test.YtnjfioikpajhlaaGreatMBase
import Derived.Test.YtnjfioikpajhlaaGreatMBase
import Derived.WalkKit
import Derived.WalkLawsBesides
import Derived.WalkSpells
import Derived.Laws.Append
import Derived.Laws.AppendOwn
import Derived.Laws.AppendOwnNone
set_option maxRecDepth 100000
set_option maxHeartbeats 64000000
namespace Go.Proofs.YtnjfioikpajhlaaGreat
open Go.RowKit
namespace W
def be : Nat -> Nat -> List UInt8
 | 0, _ => []
 | k + 1, n => UInt8.ofNat (n / 256 ^ k) :: be k n
theorem be_length (k n : Nat) : (be k n).length = k := by induction k with
 | zero => rfl
 | succ k ih => simp [be, ih]
theorem be_snoc (k n : Nat) : be (k + 1) n = be k (n / 256) ++ [UInt8.ofNat n] := by
 induction k with
 | zero => simp [be]
 | succ k ih =>
  rw [be, ih, be, List.cons_append, Nat.div_div_eq_div_mul, Nat.pow_succ, Nat.mul_comm]
def sz (size : Int) : Nat := (min (max size 0) 8).toNat
end W
theorem put_any (v : Value) (l : List UInt8) (n : Nat) (size : Int) (w : World) (_hn : n < 18446744073709551616) (h : Bs w v l) (hlen : l.length <= 1099511627776) (hs1 : -9223372036854775808 <= size) (hs2 : size <= 9223372036854775807) :
 Calls Tryz.prog 104 #[v, .int .u64 (n : Int), .int .i64 size] w fun e w' =>
  ∃ v', e = .returned v' /\ w'.ownsRow w.heap.size 5 1 v' (l ++ W.be (W.sz size) n).length ((l ++ W.be (W.sz size) n).map byteVal) /\ Ext w w' := by
 obtain ⟨i0, hi, hz0, hz1, hz2⟩ := info_parts info_u8
 have hR : Hid (Bs w v l) := h
 obtain ⟨a, cap, rfl⟩ := h.shape
 obtain ⟨B, hB⟩ : ∃ B, B = w.heap.size := ⟨_, rfl⟩
 rw [<- hB]
 have HB : Hid (B = w.heap.size) := hB
 have hB' : B <= w.heap.size := by omega
 clear hB
 go_enter Tryz.func104, Tryz.ntmps104
 go_wp2_with (first
  | (at_make; refine wpl_make _ rfl _ _ 56 rfl B 5 i0 (.int .u8 0) Tryz.underlying56 hi hz0 hz1 rfl _ _ _ _ l.length (l.length + 8) rfl rfl rfl (by omega) (by omega) (by rw [hz2]; omega) (by unfold maxLen; omega) hB' ?_; intro w1 hown1 hext1 hg1)
  | ((with_reducible show wpList _ _ _ (⟨_, Op.call ⟨.builtin .copy, _, _⟩, _, _, _, _⟩ :: _) _ _); refine wpl_copy _ rfl _ _ _ _ rfl 5 Tryz.underlying56 size_u8 B _ l.length _ (by rfl) hown1 _ (l.map byteVal) (by rfl) (hR.out.ext hext1).reads l.length (by simp) (by omega) ?_; intro w2 hown2 hg2))
 all_goals
  have hext2 : Ext w w2 := hext1.grown hg2 (by intro k hk; simp [Value.ownBlock] at hk; omega)
  have hown3 : w2.ownsRow B 5 1 (.slice (some ⟨w.heap.size, 0, none⟩) l.length (l.length + 8)) (l ++ []).length ((l ++ []).map byteVal) := by
   simpa using hown2
  clear hown1 hg1 hg2 hown2 hext1
  go_loopw [7, 8] (fun ov iv wr => ∃ k : Nat, ∃ pre : List UInt8, k <= 8 /\ pre.length <= 8 /\ Hid (pre ++ W.be k n = W.be (W.sz size) n) /\ iv = .int .i64 ((k : Int) - 1) /\ wr.ownsRow B 5 1 ov (l ++ pre).length ((l ++ pre).map byteVal) /\ Ext w wr) (fun _ iv _ => (intOf iv + 1).toNat)
  case atStart =>
   refine ⟨W.sz size, [], by unfold W.sz; omega, by simp, rfl, ?_, hown3, hext2⟩
   unfold W.sz
   congr 1
   omega
  case round =>
   obtain ⟨k, pre, hk, hpl, hp, rfl, hown, hx⟩ := hrel
   have hsz := hx.size
   match k, hk, hp with
   | 0, hk, hp =>
    have e : l ++ pre = l ++ W.be (W.sz size) n := by rw [<- hp.out]; simp [W.be]
    rw [e] at hown
    go_wp2
    go_ret
    exact ⟨_, rfl, hown, hx⟩
   | k + 1, hk, hp =>
    have e : (((k + 1 : Nat) : Int) - 1) = (k : Int) := by omega
    rw [e]
    clear e
    have hv : Hid (Value.int .u8 ((n : Int) / 2 ^ (8 * k) % 256) = byteVal (UInt8.ofNat (n / 256 ^ k))) := by
     unfold Hid byteVal
     rw [W.u8_of, show (256 : Nat) = 2 ^ 8 from rfl, <- Nat.pow_mul]
     simp
    have hb1 : Reads (wr.alloc (.cells #[.int .u8 ((n : Int) / 2 ^ (8 * k) % 256)] 5)) (.slice (some ⟨wr.heap.size, 0, none⟩) 1 1) [byteVal (UInt8.ofNat (n / 256 ^ k))] := by
     rw [hv.out]; exact Reads.one wr _ _ rfl
    have HR := qh hb1
    clear hb1
    go_wp2_with (at_builtin; refine wpl_append _ rfl _ _ 56 rfl B 5 i0 (.int .u8 0) 1 Tryz.underlying56 hi hz0 hz1 hz2 rfl _ _ _ (by rfl) (hown.alloc _) _ _ (by rfl) HR.out (by simp; unfold maxLen; omega) (by simp; omega) (by simp; omega) ?_; intro v' w1 hown' hgrow)
    have hown2 : w1.ownsRow B 5 1 v' (l ++ (pre ++ [UInt8.ofNat (n / 256 ^ k)])).length ((l ++ (pre ++ [UInt8.ofNat (n / 256 ^ k)])).map byteVal) := by
     have e : (l ++ (pre ++ [UInt8.ofNat (n / 256 ^ k)])) = (l ++ pre) ++ [UInt8.ofNat (n / 256 ^ k)] := by simp
     rw [e, List.map_append, List.length_append]; exact hown'
    have hx2 : Ext w w1 := (hx.alloc _).grown hgrow (fun k hk => by have := (hown.lt k hk).1; have := HB.out; omega)
    have hp2 : Hid ((pre ++ [UInt8.ofNat (n / 256 ^ k)]) ++ W.be k n = W.be (W.sz size) n) := by
     unfold Hid; rw [<- hp.out, W.be]; simp
    have hpl2 : (pre ++ [UInt8.ofNat (n / 256 ^ k)]).length <= 8 := by
     have h1 := congrArg List.length hp2.out
     rw [List.length_append, W.be_length, W.be_length] at h1
     have h2 : W.sz size <= 8 := by unfold W.sz; omega
     omega
    clear hown' hgrow
    go_roundw
    case rel => exact ⟨k, _, by omega, hpl2, hp2, by first | rfl | (congr 1; omega), hown2, hx2⟩
    case measure => (simp [intOf]; try omega)
theorem refPut (l : List UInt8) (n : Nat) (size : Int) (w : World) (hn : n < 18446744073709551616) (hlen : l.length <= 1099511627776) (hs1 : -9223372036854775808 <= size) (hs2 : size <= 9223372036854775807) :
 Calls Tryz.prog 108 #[.string ⟨l.toArray⟩, .int .u64 (n : Int), .int .i64 size] w fun e w' =>
  e = .returned (.string ⟨(l ++ W.be (W.sz size) n).toArray⟩) /\ Ext w w' := by
 go_enter Tryz.func108, Tryz.ntmps108
 go_wp2
 go_loopw [1, 7, 8] (fun nv dv iv wr => ∃ k m : Nat, ∃ suf : List UInt8, k <= W.sz size /\ m < 18446744073709551616 /\ suf.length = k /\ Hid (W.be (W.sz size - k) m ++ suf = W.be (W.sz size) n) /\ nv = .int .u64 m /\ iv = .int .i64 k /\ dv = .string ⟨suf.toArray⟩ /\ Ext w wr) (fun _ _ iv _ => 8 - (intOf iv).toNat)
 case atStart => exact ⟨0, n, [], by omega, hn, rfl, by simp [Hid], rfl, rfl, rfl, Ext.refl _⟩
 case round =>
  obtain ⟨k, m, suf, hk, hm, hsl, hp, rfl, rfl, rfl, hx⟩ := hrel
  have hs8 : W.sz size <= 8 := by unfold W.sz; omega
  have hsl' : suf.length <= 8 := by omega
  have HSL := qh hsl
  clear hsl
  by_cases h1 : (k : Int) < size
  ·by_cases h2 : (k : Int) < 8
   ·have hk1 : k + 1 <= W.sz size := by unfold W.sz; omega
    have hcv := one_string (P := Tryz.prog) 56 9 5 Tryz.underlying56 Tryz.underlying5 Tryz.underlying9 wr (UInt8.ofNat m) ((m : Int) % 256) (by rw [W.u8_of]; omega)
    have hp2 : Hid (W.be (W.sz size - (k + 1)) (m / 256) ++ (UInt8.ofNat m :: suf) = W.be (W.sz size) n) := by
     unfold Hid; rw [<- hp.out, show W.sz size - k = (W.sz size - (k + 1)) + 1 by omega, W.be_snoc]; simp
    have hstr : Hid (Value.string ((⟨#[UInt8.ofNat m]⟩ : ByteArray) ++ ⟨suf.toArray⟩) = .string ⟨(UInt8.ofNat m :: suf).toArray⟩) := by
     unfold Hid; rw [show (⟨#[UInt8.ofNat m]⟩ : ByteArray) = ⟨[UInt8.ofNat m].toArray⟩ from rfl, ba_append]; rfl
    go_wp2
    go_roundw
    case rel => exact ⟨k + 1, m / 256, _, hk1, by omega, by simp [HSL.out], hp2, by simp, by go_num, hstr.out, hx.alloc _⟩
    case measure => simp [intOf]; omega
   ·have hfin : Hid (Value.string ((⟨l.toArray⟩ : ByteArray) ++ ⟨suf.toArray⟩) = .string ⟨(l ++ W.be (W.sz size) n).toArray⟩) := by
     unfold Hid; rw [ba_append, <- hp.out, show W.sz size - k = 0 by omega]; rfl
    go_wp2
    go_ret
    exact ⟨congrArg Ending.returned hfin.out, hx⟩
  ·have hfin : Hid (Value.string ((⟨l.toArray⟩ : ByteArray) ++ ⟨suf.toArray⟩) = .string ⟨(l ++ W.be (W.sz size) n).toArray⟩) := by
    have : W.sz size <= k := by unfold W.sz; omega
    unfold Hid; rw [ba_append, <- hp.out, show W.sz size - k = 0 by omega]; rfl
   go_wp2
   go_ret
   exact ⟨congrArg Ending.returned hfin.out, hx⟩
end Go.Proofs.YtnjfioikpajhlaaGreat
namespace Go.Proofs.YtnjfioikpajhlaaGreat
open Go.RowKit
namespace W
def num (l : List UInt8) : Nat := l.foldl (fun n x => n * 256 + x.toNat) 0
theorem num_snoc (l : List UInt8) (x : UInt8) : num (l ++ [x]) = num l * 256 + x.toNat := by simp [num]
theorem numF_lt (l : List UInt8) (a : Nat) : l.foldl (fun n x => n * 256 + x.toNat) a < (a + 1) * 256 ^ l.length := by
 induction l generalizing a with
 | nil => simp
 | cons x l ih =>
  have h := ih (a * 256 + x.toNat)
  have hx := x.toNat_lt
  have h2 : (a * 256 + x.toNat + 1) * 256 ^ l.length <= ((a + 1) * 256) * 256 ^ l.length := Nat.mul_le_mul_right _ (by omega)
  rw [List.foldl_cons, List.length_cons, Nat.pow_succ, Nat.mul_comm (256 ^ l.length), <- Nat.mul_assoc]
  omega
theorem num_lt (l : List UInt8) : num l < 256 ^ l.length := by simpa [num] using numF_lt l 0
theorem num_lt7 (l : List UInt8) (h : l.length <= 7) : num l < 72057594037927936 := by
 have h1 := num_lt l
 have h2 : (256 : Nat) ^ l.length <= 256 ^ 7 := Nat.pow_le_pow_right (by omega) h
 have h3 : (256 : Nat) ^ 7 = 72057594037927936 := by decide
 omega
def get (l : List UInt8) (at_ size : Int) : Nat × Nat :=
 if size < 1 ∨ 8 < size ∨ at_ < 0 then (0, 1) else if (l.length : Int) < size ∨ (l.length : Int) - size < at_ then (0, 5)
 else (num ((l.drop at_.toNat).take size.toNat), 0)
theorem get_range (l : List UInt8) (a s : Int) (h : s < 1 ∨ 8 < s ∨ a < 0) : get l a s = (0, 1) := by simp [get, h]
theorem get_short (l : List UInt8) (a s : Int) (h : ¬ (s < 1 ∨ 8 < s ∨ a < 0)) (h2 : (l.length : Int) < s ∨ (l.length : Int) - s < a) : get l a s = (0, 5) := by
 unfold get; rw [if_neg h, if_pos h2]
theorem get_ok (l : List UInt8) (a s : Int) (h : ¬ (s < 1 ∨ 8 < s ∨ a < 0)) (h2 : ¬ ((l.length : Int) < s ∨ (l.length : Int) - s < a)) : get l a s = (num ((l.drop a.toNat).take s.toNat), 0) := by
 unfold get; rw [if_neg h, if_neg h2]
theorem or8 (n : Nat) (x : UInt8) (hn : n < 72057594037927936) : bits BinOp.or IntKind.u64 ((n : Int) * 256) (x.toNat : Int) = ((n * 256 + x.toNat : Nat) : Int) := by
 have hx := x.toNat_lt
 have e : ((n : Int) * 256) = ((n * 256 : Nat) : Int) := by omega
 rw [e, bits_or_u64_nat _ _ (by omega) (by omega)]
 congr 1
 have h := add_mul_or x.toNat n 8 (by omega)
 rw [Nat.or_comm, show (256 : Nat) = 2 ^ 8 from rfl, h]; omega
theorem take_snoc (l : List UInt8) (a k : Nat) (h : a + k < l.length) : (l.drop a).take (k + 1) = (l.drop a).take k ++ [l[a + k]] := by
 rw [List.take_succ_eq_append_getElem (by simp; omega)]; simp
end W
theorem get_range (v : Value) (l : List UInt8) (at_ size : Int) (w : World) (h : Bs w v l) (h1 : size < 1 ∨ 8 < size ∨ at_ < 0) :
 Calls Tryz.prog 86 #[v, .int .i64 at_, .int .i64 size] w fun e w' => e = .returned (.tuple #[.int .u64 ((W.get l at_ size).1 : Int), .int .i64 ((W.get l at_ size).2 : Int)]) /\ w = w' := by
 have hg : Hid (W.get l at_ size = (0, 1)) := W.get_range _ _ _ h1
 obtain ⟨a, cap, rfl⟩ := h.shape
 have fin : Ending.returned (.tuple #[.int .u64 0, .int .i64 1]) = Ending.returned (.tuple #[.int .u64 ((W.get l at_ size).1 : Int), .int .i64 ((W.get l at_ size).2 : Int)]) := by rw [hg.out]; rfl
 have FIN := qh fin
 clear fin h
 by_cases c1 : size < 1
 ·clear h1
  go_enter Tryz.func86, Tryz.ntmps86
  go_wp2
  go_ret2
  exact ⟨FIN.out, rfl⟩
 ·by_cases c2 : 8 < size
  ·clear h1
   go_enter Tryz.func86, Tryz.ntmps86
   go_wp2
   go_ret2
   exact ⟨FIN.out, rfl⟩
  ·have c3 : at_ < 0 := by omega
   clear h1
   go_enter Tryz.func86, Tryz.ntmps86
   go_wp2
   go_ret2
   exact ⟨FIN.out, rfl⟩
theorem get_short (v : Value) (l : List UInt8) (at_ size : Int) (w : World) (h : Bs w v l) (hat : at_ <= 9223372036854775807) (h1 : ¬ (size < 1 ∨ 8 < size ∨ at_ < 0)) (h2 : (l.length : Int) < size ∨ (l.length : Int) - size < at_) :
 Calls Tryz.prog 86 #[v, .int .i64 at_, .int .i64 size] w fun e w' => e = .returned (.tuple #[.int .u64 ((W.get l at_ size).1 : Int), .int .i64 ((W.get l at_ size).2 : Int)]) /\ w = w' := by
 have hg : Hid (W.get l at_ size = (0, 5)) := W.get_short _ _ _ h1 h2
 obtain ⟨a, cap, rfl⟩ := h.shape
 have fin : Ending.returned (.tuple #[.int .u64 0, .int .i64 5]) = Ending.returned (.tuple #[.int .u64 ((W.get l at_ size).1 : Int), .int .i64 ((W.get l at_ size).2 : Int)]) := by rw [hg.out]; rfl
 have FIN := qh fin
 clear fin
 have hl := h.length_le
 clear h
 have c1 : 1 <= size := by omega
 have c2 : size <= 8 := by omega
 have c3 : 0 <= at_ := by omega
 clear h1
 by_cases c4 : (l.length : Int) < size
 ·clear h2
  go_enter Tryz.func86, Tryz.ntmps86
  go_wp2
  go_ret2
  exact ⟨FIN.out, rfl⟩
 ·have c5 : (l.length : Int) - size < at_ := by omega
  clear h2
  go_enter Tryz.func86, Tryz.ntmps86
  go_wp2
  go_ret2
  exact ⟨FIN.out, rfl⟩
theorem get_ok (b off cap : Nat) (l : List UInt8) (at_ size : Nat) (w : World) (hcap : l.length <= cap) (hcm : cap <= 9223372036854775807)
 (h1 : 1 <= size) (h8 : size <= 8) (h2 : at_ + size <= l.length)
 (hc : Hid (∀ i (h : i < l.length), w.cell? ⟨b, off + i, none⟩ = some (.int .u8 (l[i].toNat : Int)))) :
 Calls Tryz.prog 86 #[.slice (some ⟨b, off, none⟩) l.length cap, .int .i64 at_, .int .i64 size] w fun e w' => e = .returned (.tuple #[.int .u64 ((W.num ((l.drop at_).take size) : Nat) : Int), .int .i64 0]) /\ w = w' := by
 have hl : l.length <= 9223372036854775807 := by omega
 have b1 : decide ((size : Int) < 1) = false := by simp; omega
 have b2 : decide (8 < (size : Int)) = false := by simp; omega
 have b3 : decide ((at_ : Int) < 0) = false := by simp
 have b4 : decide (l.length < size) = false := by simp; omega
 have b5 : decide ((l.length : Int) - (size : Int) < (at_ : Int)) = false := by simp; omega
 go_enter Tryz.func86, Tryz.ntmps86
 go_wp2
 go_loop [8, 40] (fun nv iv => ∃ k m : Nat, k <= size /\ Hid (m = W.num ((l.drop at_).take k)) /\ nv = .int .u64 m /\ iv = .int .i64 k) (fun _ iv => size - (intOf iv).toNat)
 case atStart => exact ⟨0, 0, by omega, rfl, rfl, rfl⟩
 case round =>
  obtain ⟨k, m, hk, hm, rfl, rfl⟩ := hrel
  by_cases hks : k < size
  ·have hcell := hc.out (at_ + k) (by omega)
   rw [<- Nat.add_assoc] at hcell
   have hm7 : m < 72057594037927936 := by rw [hm.out]; exact W.num_lt7 _ (by simp; omega)
   have hx := (l[at_ + k]'(by omega)).toNat_lt
   have hn2 : Hid (m * 256 + (l[at_ + k]'(by omega)).toNat = W.num ((l.drop at_).take (k + 1))) := by
    unfold Hid; rw [W.take_snoc l at_ k (by omega), W.num_snoc, <- hm.out]
   go_wp2
   go_round
   case rel => exact ⟨k + 1, _, by omega, hn2, congrArg (Value.int .u64) (W.or8 m _ hm7), by go_num⟩
   case measure => simp [intOf]; omega
  ·have hfin : Hid (W.num ((l.drop at_).take size) = m) := by rw [hm.out, show k = size by omega]; rfl
   go_wp2
   go_ret2
   exact ⟨by rw [hfin.out]; rfl, rfl⟩
theorem get_any (v : Value) (l : List UInt8) (at_ size : Int) (w : World) (h : Bs w v l) (hat : at_ <= 9223372036854775807) :
 Calls Tryz.prog 86 #[v, .int .i64 at_, .int .i64 size] w fun e w' => e = .returned (.tuple #[.int .u64 ((W.get l at_ size).1 : Int), .int .i64 ((W.get l at_ size).2 : Int)]) /\ w = w' := by
 by_cases h1 : size < 1 ∨ 8 < size ∨ at_ < 0
 ·exact get_range v l at_ size w h h1
 ·by_cases h2 : (l.length : Int) < size ∨ (l.length : Int) - size < at_
  ·exact get_short v l at_ size w h hat h1 h2
  ·rw [W.get_ok _ _ _ h1 h2]
   rcases h.open with ⟨a, cap, rfl, rfl, _⟩ | ⟨b, off, cap, rfl, hp, hlc, hcm, hb, hc⟩
   ·simp at h2; omega
   ·unfold maxLen at hcm
    have := get_ok b off cap l at_.toNat size.toNat w hlc (by omega) (by omega) (by omega) (by omega) hc
    rw [Int.toNat_of_nonneg (by omega), Int.toNat_of_nonneg (by omega)] at this
    exact this
theorem refGet_range (s : ByteArray) (at_ size : Int) (w : World) (h1 : size < 1 ∨ 8 < size ∨ at_ < 0) :
 Calls Tryz.prog 94 #[.string s, .int .i64 at_, .int .i64 size] w fun e w' => e = .returned (.tuple #[.int .u64 0, .int .i64 1]) /\ w = w' := by
 by_cases c1 : size < 1
 ·clear h1
  go_enter Tryz.func94, Tryz.ntmps94
  go_wp2
  go_ret2
  exact ⟨rfl, rfl⟩
 ·by_cases c2 : 8 < size
  ·clear h1
   go_enter Tryz.func94, Tryz.ntmps94
   go_wp2
   go_ret2
   exact ⟨rfl, rfl⟩
  ·have c3 : at_ < 0 := by omega
   clear h1
   go_enter Tryz.func94, Tryz.ntmps94
   go_wp2
   go_ret2
   exact ⟨rfl, rfl⟩
theorem refGet_in (s : ByteArray) (at_ size : Nat) (w : World) (hl : s.size <= 9223372036854775807) (h1 : 1 <= size) (h8 : size <= 8) (hat : at_ <= 9223372036854775807) :
 Calls Tryz.prog 94 #[.string s, .int .i64 at_, .int .i64 size] w fun e w' => e = .returned (.tuple #[.int .u64 ((W.get s.data.toList at_ size).1 : Int), .int .i64 ((W.get s.data.toList at_ size).2 : Int)]) /\ w = w' := by
 have b1 : decide ((size : Int) < 1) = false := by simp; omega
 have b2 : decide (8 < (size : Int)) = false := by simp; omega
 have b3 : decide ((at_ : Int) < 0) = false := by simp
 have hsz : s.data.toList.length = s.size := by simp
 have hshort : Hid (s.size < at_ + size -> W.get s.data.toList at_ size = (0, 5)) := fun h => W.get_short _ _ _ (by omega) (by omega)
 have hok : Hid (¬ s.size < at_ + size -> W.get s.data.toList at_ size = (W.num ((s.data.toList.drop at_).take size), 0)) := fun h => by
  rw [W.get_ok _ _ _ (by omega) (by omega)]; simp
 have HS := qh hsz
 clear hsz
 go_enter Tryz.func94, Tryz.ntmps94
 go_wp2
 go_loop [8, 9] (fun nv iv => ∃ k m : Nat, k <= size /\ (k = 0 ∨ at_ + k <= s.size) /\ Hid (m = W.num ((s.data.toList.drop at_).take k)) /\ nv = .int .u64 m /\ iv = .int .i64 k) (fun _ iv => size - (intOf iv).toNat)
 case atStart => exact ⟨0, 0, by omega, .inl rfl, rfl, rfl, rfl⟩
 case round =>
  obtain ⟨k, m, hk, hks, hm, rfl, rfl⟩ := hrel
  have HK := qh hks
  clear hks
  by_cases hks : k < size
  ·by_cases hat2 : (s.size : Int) - (k : Int) <= (at_ : Int)
   ·have hfin : Hid (W.get s.data.toList at_ size = (0, 5)) := hshort.out (by omega)
    go_wp2
    go_ret2
    exact ⟨by rw [hfin.out]; rfl, rfl⟩
   ·have hm7 : m < 72057594037927936 := by rw [hm.out]; exact W.num_lt7 _ (by simp; omega)
    have hlt : at_ + k < s.size := by omega
    have hx := (s[at_ + k]).toNat_lt
    have hn2 : Hid (m * 256 + (s[at_ + k]).toNat = W.num ((s.data.toList.drop at_).take (k + 1))) := by
     unfold Hid; rw [W.take_snoc _ at_ k (by have := HS.out; omega), W.num_snoc, <- hm.out]; rfl
    go_wp2
    go_round
    case rel => exact ⟨k + 1, _, by omega, .inr (by omega), hn2, by go_num, by go_num⟩
    case measure => simp [intOf]; omega
  ·have hfin : Hid (W.get s.data.toList at_ size = (m, 0)) := by
    unfold Hid
    rw [hok.out (by have := HK.out; omega), hm.out, show k = size by omega]
   go_wp2
   go_ret2
   exact ⟨by rw [hfin.out]; rfl, rfl⟩
theorem refGet (s : ByteArray) (at_ size : Int) (w : World) (hl : s.size <= 9223372036854775807) (hat : at_ <= 9223372036854775807) :
 Calls Tryz.prog 94 #[.string s, .int .i64 at_, .int .i64 size] w fun e w' => e = .returned (.tuple #[.int .u64 ((W.get s.data.toList at_ size).1 : Int), .int .i64 ((W.get s.data.toList at_ size).2 : Int)]) /\ w = w' := by
 by_cases h1 : size < 1 ∨ 8 < size ∨ at_ < 0
 ·rw [W.get_range _ _ _ h1]; exact refGet_range s at_ size w h1
 ·have := refGet_in s at_.toNat size.toNat w hl (by omega) (by omega) (by omega)
  rw [Int.toNat_of_nonneg (by omega), Int.toNat_of_nonneg (by omega)] at this
  exact this
end Go.Proofs.YtnjfioikpajhlaaGreat
namespace Go.Proofs.YtnjfioikpajhlaaGreat
open Go.RowKit
def Rows2 (w : World) (v : Value) (ls : List (List UInt8)) : Prop :=
 ∃ vs, Reads w v vs /\ vs.length = ls.length /\ ∀ i (h : i < ls.length), ∃ u, vs[i]? = some u /\ Bs w u ls[i]
theorem Rows2.ext {w w' : World} {v : Value} {ls : List (List UInt8)} (h : Rows2 w v ls) (he : Ext w w') : Rows2 w' v ls := by
 obtain ⟨vs, h1, h2, h3⟩ := h
 exact ⟨vs, h1.ext he, h2, fun i hi => let ⟨u, a, b⟩ := h3 i hi; ⟨u, a, b.ext he⟩⟩
theorem Rows2.open {w : World} {v : Value} {ls : List (List UInt8)} (h : Rows2 w v ls) : ls.length <= 9223372036854775807 /\
 ((∃ a cap, v = .slice a 0 cap /\ ls = []) ∨
 (∃ b off cap, v = .slice (some ⟨b, off, none⟩) ls.length cap /\ 0 < ls.length /\ ∀ i (h : i < ls.length), ∃ u, Bs w u ls[i] /\ w.cell? ⟨b, off + i, none⟩ = some u)) := by
 obtain ⟨vs, ⟨a, cap, hv, h1, h2, hn, h3, h4⟩, hl, hr⟩ := h
 unfold maxLen at h2
 rw [hl] at hv h1
 refine ⟨by omega, ?_⟩
 by_cases h0 : ls = []
 ·subst h0; exact .inl ⟨a, cap, hv, rfl⟩
 ·have hp : 0 < ls.length := List.length_pos_iff.2 h0
  rcases h4 with h4 | ⟨b, off, rfl, hc⟩
  ·subst h4; simp at hl; omega
  ·refine .inr ⟨b, off, cap, hv, hp, fun i hi => ?_⟩
   obtain ⟨u, hu, hb⟩ := hr i hi
   exact ⟨u, hb, hc i u hu⟩
theorem Rows2.one {w : World} {v u : Value} {l : List UInt8} (hv : Reads w v [u]) (hu : Bs w u l) : Rows2 w v [l] :=
 ⟨[u], hv, rfl, fun i hi => by
  match i, hi with
  | 0, _ => exact ⟨u, rfl, hu⟩⟩
namespace S
def runs (c : BitVec 32) (ls : List (List UInt8)) : BitVec 32 := run c ls.flatten
theorem runs_take (c : BitVec 32) (ls : List (List UInt8)) (k : Nat) (h : k < ls.length) : runs c (ls.take (k + 1)) = run (runs c (ls.take k)) ls[k] := by
 unfold runs
 rw [List.take_succ_eq_append_getElem h, List.flatten_append, run_append]
 simp
theorem run_take (c : BitVec 32) (l : List UInt8) (k : Nat) (h : k < l.length) : run c (l.take (k + 1)) = by1 (run c (l.take k)) l[k] := by
 rw [List.take_succ_eq_append_getElem h, run_snoc]
theorem by_walk (c : BitVec 32) (x : UInt8) : bits BinOp.xor IntKind.u32 (c.toNat : Int) (x.toNat : Int) = ((c ^^^ BitVec.ofNat 32 x.toNat).toNat : Int) := by
 have hx := x.toNat_lt
 have h := xor32 c (BitVec.ofNat 32 x.toNat)
 rw [BitVec.toNat_ofNat, Nat.mod_eq_of_lt (by omega)] at h
 exact h
theorem by_walk2 (c : BitVec 32) (x : UInt8) : bits BinOp.xor IntKind.u32 (c.toNat : Int) ((x.toNat : Int) % 4294967296) = ((c ^^^ BitVec.ofNat 32 x.toNat).toNat : Int) := by
 have hx := x.toNat_lt
 rw [Int.emod_eq_of_lt (by omega) (by omega)]
 exact by_walk c x
theorem st_walk2 (c : BitVec 32) : bits BinOp.xor IntKind.u32 ((c.toNat : Int) / 2) (bits BinOp.and IntKind.u32 3988292384 (-(bits BinOp.and IntKind.u32 (c.toNat : Int) 1) % 4294967296)) = ((st c).toNat : Int) := by
 rw [<- IntKind.wrap_u32']; exact st_walk c
theorem not_walk (c : BitVec 32) : bits BinOp.xor IntKind.u32 IntKind.u32.max (c.toNat : Int) = ((~~~ c).toNat : Int) := by
 have h := xor32 (~~~ 0#32) c
 have e : (((~~~ 0#32).toNat : Nat) : Int) = IntKind.u32.max := by decide
 rw [e] at h
 rw [h]
 have : ~~~ 0#32 ^^^ c = ~~~ c := by
  rw [show ~~~ 0#32 = BitVec.allOnes 32 from rfl, BitVec.allOnes_xor]
 rw [this]
end S
theorem sum_cons (b off cap : Nat) (ls : List (List UInt8)) (w : World) (hl : ls.length <= 9223372036854775807) (hp : 0 < ls.length)
 (hr : Hid (∀ i (h : i < ls.length), ∃ u, Bs w u ls[i] /\ w.cell? ⟨b, off + i, none⟩ = some u)) :
 Calls Tryz.prog 105 #[.slice (some ⟨b, off, none⟩) ls.length cap] w fun e w' => e = .returned (.int .u32 (S.sum ls.flatten : Int)) /\ w = w' := by
 go_enter Tryz.func105, Tryz.ntmps105
 go_wp2
 go_loop [3, 10] (fun c i => ∃ k : Nat, ∃ d : BitVec 32, k <= ls.length /\ Hid (d = S.runs (~~~ 0#32) (ls.take k)) /\ i = .int .i64 k /\ c = .int .u32 (d.toNat : Int)) (fun _ i => ls.length - (intOf i).toNat)
 case atStart => exact ⟨0, ~~~ 0#32, by omega, rfl, rfl, by rw [show (~~~ 0#32).toNat = 4294967295 from by decide]; rfl⟩
 case round =>
  obtain ⟨k, d, hk, hd, rfl, rfl⟩ := hrel
  by_cases hlt : k < ls.length
  ·obtain ⟨u, hu, hcell⟩ := hr.out k hlt
   have hll := hu.length_le
   rcases hu.open with ⟨a, cp, rfl, he, _, _⟩ | ⟨b2, off2, cp, rfl, hp2, _, _, _, hc2⟩
   ·have hd2 : Hid (d = S.runs (~~~ 0#32) (ls.take (k + 1))) := by
     unfold Hid; rw [S.runs_take _ _ _ hlt, he, <- hd.out]; rfl
    clear he
    go_wp2
    refine wp_loop_rounds 1 ?_
    rw [rounds_succ]
    go_wp2
    go_round
    case rel => exact ⟨k + 1, d, by omega, hd2, by go_num, rfl⟩
    case measure => simp [intOf]; omega
   ·have hc2' := qh hc2
    clear hc2
    go_wp2
    go_loop [3, 16] (fun c i => ∃ j : Nat, ∃ e : BitVec 32, j <= ls[k].length /\ Hid (e = S.run d (ls[k].take j)) /\ i = .int .i64 j /\ c = .int .u32 (e.toNat : Int)) (fun _ i => ls[k].length - (intOf i).toNat)
    case atStart => exact ⟨0, d, by omega, rfl, rfl, rfl⟩
    case round =>
     obtain ⟨j, e, hj, he, rfl, rfl⟩ := hrel
     by_cases hjl : j < ls[k].length
     ·have hcell2 := hc2'.out j hjl
      go_wp2
      go_loop [3, 24] (fun c i => ∃ q : Nat, ∃ f : BitVec 32, q <= 8 /\ Hid (f = S.stN q (e ^^^ BitVec.ofNat 32 (ls[k][j]).toNat)) /\ i = .int .i64 q /\ c = .int .u32 (f.toNat : Int)) (fun _ i => 8 - (intOf i).toNat)
      case atStart => exact ⟨0, _, by omega, rfl, rfl, congrArg (Value.int .u32) (S.by_walk2 e ls[k][j])⟩
      case round =>
       obtain ⟨q, f, hq, hf, rfl, rfl⟩ := hrel
       by_cases hq8 : q < 8
       ·have hf2 : Hid (S.st f = S.stN (q + 1) (e ^^^ BitVec.ofNat 32 (ls[k][j]).toNat)) := by
         unfold Hid; rw [hf.out]; rfl
        go_wp2
        go_round
        case rel => exact ⟨q + 1, S.st f, by omega, hf2, by go_num, congrArg (Value.int .u32) (S.st_walk2 f)⟩
        case measure => simp [intOf]; omega
       ·have hf2 : Hid (f = S.run d (ls[k].take (j + 1))) := by
         unfold Hid; rw [S.run_take _ _ _ hjl, <- he.out, hf.out, show q = 8 by omega]; rfl
        go_wp2
        go_round
        case rel => exact ⟨j + 1, f, by omega, hf2, by go_num, rfl⟩
        case measure => simp [intOf]; omega
     ·have hd2 : Hid (e = S.runs (~~~ 0#32) (ls.take (k + 1))) := by
       unfold Hid; rw [S.runs_take _ _ _ hlt, <- hd.out, he.out, List.take_of_length_le (by omega)]
      go_wp2
      go_round
      case rel => exact ⟨k + 1, e, by omega, hd2, by go_num, rfl⟩
      case measure => simp [intOf]; omega
  ·have hd2 : Hid ((S.sum ls.flatten : Int) = ((~~~ d).toNat : Int)) := by
    unfold Hid; rw [hd.out, List.take_of_length_le (by omega)]; rfl
   go_wp2
   go_ret
   exact ⟨by rw [S.not_walk, hd2.out]; rfl, rfl⟩
theorem sum_nil (a : Option Addr) (cap : Nat) (w : World) :
 Calls Tryz.prog 105 #[.slice a 0 cap] w fun e w' => e = .returned (.int .u32 (S.sum [] : Int)) /\ w = w' := by
 have hd2 : Hid ((S.sum [] : Int) = 0) := by unfold Hid; decide
 have hm : bits BinOp.xor IntKind.u32 IntKind.u32.max 4294967295 = 0 := by decide
 go_enter Tryz.func105, Tryz.ntmps105
 go_wp2
 refine wp_loop_rounds 1 ?_
 rw [rounds_succ]
 go_wp2
 go_ret
 exact ⟨by rw [hd2.out]; rfl, rfl⟩
theorem sum_any (v : Value) (ls : List (List UInt8)) (w : World) (h : Rows2 w v ls) :
 Calls Tryz.prog 105 #[v] w fun e w' => e = .returned (.int .u32 (S.sum ls.flatten : Int)) /\ w = w' := by
 obtain ⟨hl, h⟩ := h.open
 rcases h with ⟨a, cap, rfl, rfl⟩ | ⟨b, off, cap, rfl, hp, hr⟩
 ·exact sum_nil a cap w
 ·exact sum_cons b off cap ls w hl hp hr
end Go.Proofs.YtnjfioikpajhlaaGreat
namespace Go.Proofs.YtnjfioikpajhlaaGreat
open Go.RowKit
theorem var_any (v : Value) (l : List UInt8) (n : Nat) (w : World) (hn : n < 18446744073709551616) (h : Bs w v l) (hlen : l.length <= 1099511627776) :
 Calls Tryz.prog 77 #[v, .int .u64 (n : Int)] w fun e w' =>
  ∃ v', e = .returned v' /\ w'.ownsRow w.heap.size 5 1 v' (l ++ W.vb n).length ((l ++ W.vb n).map byteVal) /\ Ext w w' := by
 obtain ⟨i0, hi, hz0, hz1, hz2⟩ := info_parts info_u8
 have hR : Hid (Bs w v l) := h
 obtain ⟨a, cap, rfl⟩ := h.shape
 obtain ⟨B, hB⟩ : ∃ B, B = w.heap.size := ⟨_, rfl⟩
 rw [<- hB]
 have HB : Hid (B = w.heap.size) := hB
 have hB' : B <= w.heap.size := by omega
 clear hB
 go_enter Tryz.func77, Tryz.ntmps77
 go_wp2_with (first
  | (at_make; refine wpl_make _ rfl _ _ 56 rfl B 5 i0 (.int .u8 0) Tryz.underlying56 hi hz0 hz1 rfl _ _ _ _ l.length (l.length + 10) rfl rfl rfl (by omega) (by omega) (by rw [hz2]; omega) (by unfold maxLen; omega) hB' ?_; intro w1 hown1 hext1 hg1)
  | ((with_reducible show wpList _ _ _ (⟨some 14, Op.call _, _, _, _, _⟩ :: _) _ _); refine wpl_copy _ rfl _ _ _ _ rfl 5 Tryz.underlying56 size_u8 B _ l.length _ (by rfl) hown1 _ (l.map byteVal) (by rfl) (hR.out.ext hext1).reads l.length (by simp) (by omega) ?_; intro w2 hown2 hg2))
 have hext2 : Ext w w2 := hext1.grown hg2 (by intro k hk; simp [Value.ownBlock] at hk; omega)
 have hown3 : w2.ownsRow B 5 1 (.slice (some ⟨w.heap.size, 0, none⟩) l.length (l.length + 10)) (l ++ []).length ((l ++ []).map byteVal) := by
  simpa using hown2
 clear hown1 hg1 hg2 hown2 hext1 hR
 go_frame
 go_loopw [1, 5] (fun nv ov wr => ∃ m : Nat, ∃ pre : List UInt8, m < 18446744073709551616 /\ Hid (pre ++ W.vb m = W.vb n) /\ nv = .int .u64 m /\ wr.ownsRow B 5 1 ov (l ++ pre).length ((l ++ pre).map byteVal) /\ Ext w wr) (fun nv _ _ => (intOf nv).toNat)
 case atStart => exact ⟨n, [], hn, rfl, rfl, hown3, hext2⟩
 case round =>
  obtain ⟨m, pre, hm, hp, rfl, hown, hx⟩ := hrel
  have hv10 := W.vb_len10 n hn
  have hpl : pre.length <= 10 := by have := congrArg List.length hp.out; simp at this; omega
  clear hv10
  have hsz := hx.size
  by_cases h127 : m < 128
  ·have hb1 : Reads (wr.alloc (.cells #[.int .u8 (m : Int)] 5)) (.slice (some ⟨wr.heap.size, 0, none⟩) 1 1) [byteVal (UInt8.ofNat m)] := by
    have e : byteVal (UInt8.ofNat m) = .int .u8 (m : Int) := by unfold byteVal; rw [W.u8_of, Nat.mod_eq_of_lt (by omega)]
    rw [e]; exact Reads.one wr _ _ rfl
   have HR := qh hb1
   clear hb1
   go_wp2_with (at_builtin; refine wpl_append _ rfl _ _ 56 rfl B 5 i0 (.int .u8 0) 1 Tryz.underlying56 hi hz0 hz1 hz2 rfl _ _ _ (by rfl) (hown.alloc _) _ _ (by rfl) HR.out (by simp; unfold maxLen; omega) (by simp; omega) (by simp; omega) ?_; intro v' w1 hown' hgrow)
   have hown2 : w1.ownsRow B 5 1 v' (l ++ W.vb n).length ((l ++ W.vb n).map byteVal) := by
    have e : (l ++ W.vb n) = (l ++ pre) ++ [UInt8.ofNat m] := by rw [<- hp.out, W.vb_small m h127]; simp
    rw [e, List.map_append, List.length_append]; exact hown'
   have hx2 : Ext w w1 := (hx.alloc _).grown hgrow (fun k hk => by have := (hown.lt k hk).1; have := HB.out; omega)
   go_ret
   exact ⟨v', rfl, hown2, hx2⟩
  ·have hb1 : Reads (wr.alloc (.cells #[.int .u8 (bits BinOp.or IntKind.u8 (IntKind.u8.wrap (m : Int)) 128)] 5)) (.slice (some ⟨wr.heap.size, 0, none⟩) 1 1) [byteVal (UInt8.ofNat (m % 128 + 128))] := by
    rw [W.or128]; exact Reads.one wr _ _ rfl
   have HR := qh hb1
   clear hb1
   go_wp2_with (at_builtin; refine wpl_append _ rfl _ _ 56 rfl B 5 i0 (.int .u8 0) 1 Tryz.underlying56 hi hz0 hz1 hz2 rfl _ _ _ (by rfl) (hown.alloc _) _ _ (by rfl) HR.out (by simp; unfold maxLen; omega) (by simp; omega) (by simp; omega) ?_; intro v' w1 hown' hgrow)
   have hown2 : w1.ownsRow B 5 1 v' (l ++ (pre ++ [UInt8.ofNat (m % 128 + 128)])).length ((l ++ (pre ++ [UInt8.ofNat (m % 128 + 128)])).map byteVal) := by
    have e : (l ++ (pre ++ [UInt8.ofNat (m % 128 + 128)])) = (l ++ pre) ++ [UInt8.ofNat (m % 128 + 128)] := by simp
    rw [e, List.map_append, List.length_append]; exact hown'
   have hx2 : Ext w w1 := (hx.alloc _).grown hgrow (fun k hk => by have := (hown.lt k hk).1; have := HB.out; omega)
   have hp2 : Hid ((pre ++ [UInt8.ofNat (m % 128 + 128)]) ++ W.vb (m / 128) = W.vb n) := by
    unfold Hid; rw [<- hp.out, W.vb_more m h127]; simp
   clear hown' hgrow
   go_roundw
   case rel => exact ⟨m / 128, _, by omega, hp2, by simp, hown2, hx2⟩
   case measure => simp [intOf]; omega
end Go.Proofs.YtnjfioikpajhlaaGreat
namespace Go.Proofs.YtnjfioikpajhlaaGreat
open Go.RowKit
theorem readVar_cons (b off cap : Nat) (l : List UInt8) (w : World) (hl : l.length <= 1000000) (hne : 0 < l.length)
 (hc : ∀ i (h : i < l.length), w.cell? ⟨b, off + i, none⟩ = some (.int .u8 (l[i].toNat : Int))) :
  Calls Tryz.prog 92 #[.slice (some ⟨b, off, none⟩) l.length cap] w fun e w' =>
   e = .returned (.tuple #[.int .u64 ((W.rv l 0 0).1 : Int), .int .i64 ((W.rv l 0 0).2.1 : Int), .int .i64 ((W.rv l 0 0).2.2 : Int)]) /\ w = w' := by
 go_enter Tryz.func92, Tryz.ntmps92
 go_wp2
 go_loop [2, 9] (fun n i => ∃ k : Nat, ∃ m : Nat, k <= l.length /\ k <= 9 /\ m < 128 ^ k /\ W.rv l 0 0 = W.rv (l.drop k) k m /\ i = .int .i64 k /\ n = .int .u64 m) (fun _ i => l.length - (intOf i).toNat)
 case atStart => exact ⟨0, 0, by omega, by omega, by simp, by simp, rfl, rfl⟩
 case round =>
  obtain ⟨k, m, hk, hk9, hm0, hr0, rfl, rfl⟩ := hrel
  have hm : Hid (m < 128^k) := hm0
  have hr : Hid (W.rv l 0 0 = W.rv (l.drop k) k m) := hr0
  clear hm0 hr0
  by_cases hlt : k < l.length
  ·have hcell := hc k hlt
   have hcons := W.drop_cons l k hlt
   have hr2 : Hid (W.rv l 0 0 = W.rv (l[k] :: l.drop (k + 1)) k m) := by unfold Hid; rw [<- hcons]; exact hr.out
   clear hr hcons
   have hb := l[k].toNat_lt
   have hend : Hid (∀ v : Int, (¬ ((k = 9 /\ 1 < l[k].toNat) ∨ (0 < k /\ l[k].toNat = 0))) -> l[k].toNat < 128 -> v = (bits BinOp.or IntKind.u64 (m : Int) (IntKind.u64.wrap (IntKind.u64.wrap (bits BinOp.and IntKind.u8 (l[k].toNat : Int) 127) * 2 ^ (7 * k)))) ->
    Ending.returned (.tuple #[.int .u64 v, .int .i64 ((k : Int) + 1), .int .i64 0]) = Ending.returned (.tuple #[.int .u64 ((W.rv l 0 0).1 : Int), .int .i64 ((W.rv l 0 0).2.1 : Int), .int .i64 ((W.rv l 0 0).2.2 : Int)])) := by
    intro v h1 h2 hv
    rw [hv, W.or_shl m l[k].toNat k hb hm.out hk9 (by omega), hr2.out, W.rv_end _ _ _ _ h1 h2]
    rfl
   have hbad : Hid (((k = 9 /\ 1 < l[k].toNat) ∨ (0 < k /\ l[k].toNat = 0)) ->
    Ending.returned (.tuple #[.int .u64 0, .int .i64 0, .int .i64 4]) = Ending.returned (.tuple #[.int .u64 ((W.rv l 0 0).1 : Int), .int .i64 ((W.rv l 0 0).2.1 : Int), .int .i64 ((W.rv l 0 0).2.2 : Int)])) := by
    intro h
    rw [hr2.out, W.rv_bad _ _ _ _ h]; rfl
   have hmore : Hid ((¬ ((k = 9 /\ 1 < l[k].toNat) ∨ (0 < k /\ l[k].toNat = 0))) -> ¬ l[k].toNat < 128 ->
    k + 1 <= 9 /\ m + l[k].toNat % 128 * 128 ^ k < 128 ^ (k + 1) /\ W.rv l 0 0 = W.rv (l.drop (k + 1)) (k + 1) (m + l[k].toNat % 128 * 128 ^ k)
    /\ Value.int .u64 (bits BinOp.or IntKind.u64 (m : Int) (IntKind.u64.wrap (IntKind.u64.wrap (bits BinOp.and IntKind.u8 (l[k].toNat : Int) 127) * 2 ^ (7 * k)))) = .int .u64 ((m + l[k].toNat % 128 * 128 ^ k : Nat) : Int)) := by
    intro h1 h2
    refine ⟨by omega, (W.step_lt m k l[k].toNat hm.out hk9 hb (by omega)).2, by rw [hr2.out, W.rv_more _ _ _ _ h1 h2], ?_⟩
    rw [W.or_shl m l[k].toNat k hb hm.out hk9 (by omega)]
   by_cases h9 : k = 9
   ·subst h9
    by_cases hx : (1 : Int) < (l[9].toNat : Int)
    ·go_wp2
     go_ret3
     exact ⟨hbad.out (by first | exact .inl ⟨rfl, by omega⟩ | (simp; omega)), rfl⟩
    ·by_cases hx0 : (l[9].toNat : Int) = 0
     ·have hxb : ((l[9].toNat : Int) == 0) = true := by simpa using hx0
      go_wp2
      go_ret3
      exact ⟨hbad.out (.inr ⟨by omega, by omega⟩), rfl⟩
     ·have hxb : ((l[9].toNat : Int) == 0) = false := by simpa using hx0
      have hxl : (l[9].toNat : Int) < 128 := by omega
      go_wp2
      go_ret3
      exact ⟨hend.out _ (by rintro (⟨_, h⟩ | ⟨_, h⟩) <;> omega) (by omega) (by simp), rfl⟩
   ·by_cases h0 : k = 0
    ·subst h0
     have hcell : w.cell? ⟨b, off, none⟩ = some (.int .u8 (l[0].toNat : Int)) := by simpa using hcell
     by_cases hx : (l[0].toNat : Int) < 128
     ·go_wp2
      go_ret3
      exact ⟨hend.out _ (by rintro (⟨_, h⟩ | ⟨_, h⟩) <;> omega) (by omega) (by simp), rfl⟩
     ·go_wp2
      go_round
      case rel => (have H := hmore.out (by rintro (⟨_, h⟩ | ⟨_, h⟩) <;> omega) (by omega); exact ⟨1, _, by omega, H.1, H.2.1, H.2.2.1, rfl, by simpa using H.2.2.2⟩)
      case measure => simp [intOf]; omega
    ·have hk0 : 0 < k := by omega
     by_cases hx0 : (l[k].toNat : Int) = 0
     ·have hxb : ((l[k].toNat : Int) == 0) = true := by simpa using hx0
      go_wp2
      go_ret3
      exact ⟨hbad.out (.inr ⟨by omega, by omega⟩), rfl⟩
     ·have hxb : ((l[k].toNat : Int) == 0) = false := by simpa using hx0
      by_cases hx : (l[k].toNat : Int) < 128
      ·go_wp2
       go_ret3
       exact ⟨hend.out _ (by rintro (⟨_, h⟩ | ⟨_, h⟩) <;> omega) (by omega) rfl, rfl⟩
      ·go_wp2
       go_round
       case rel => (have H := hmore.out (by rintro (⟨_, h⟩ | ⟨_, h⟩) <;> omega) (by omega); exact ⟨k + 1, _, by omega, H.1, H.2.1, H.2.2.1, by go_num, H.2.2.2⟩)
       case measure => simp [intOf]; omega
  ·obtain rfl : k = l.length := by omega
   have hr3 : Hid (W.rv l 0 0 = (0, 0, 5)) := by unfold Hid; rw [hr.out]; simp [W.rv]
   go_wp2
   go_ret3
   exact ⟨by rw [hr3.out]; rfl, rfl⟩
theorem readVar_nil (a : Option Addr) (cap : Nat) (w : World) :
 Calls Tryz.prog 92 #[.slice a 0 cap] w fun e w' =>
  e = .returned (.tuple #[.int .u64 ((W.rv [] 0 0).1 : Int), .int .i64 ((W.rv [] 0 0).2.1 : Int), .int .i64 ((W.rv [] 0 0).2.2 : Int)]) /\ w = w' := by
 go_enter Tryz.func92, Tryz.ntmps92
 go_wp2
 refine wp_loop_rounds 1 ?_
 rw [rounds_succ]
 go_wp2
 go_ret3
 exact ⟨rfl, rfl⟩
end Go.Proofs.YtnjfioikpajhlaaGreat
namespace Go.Proofs.YtnjfioikpajhlaaGreat
open Go.RowKit
theorem first_str (P : Program) (w : World) (l : List UInt8) : (Builtin.firstCells 1 l.length (.string ⟨l.toArray⟩)).run P w = .ok (l.map byteVal).toArray w := by
 have hx : (((⟨l.toArray⟩ : ByteArray).extract 0 l.length).data.map fun b => Value.int .u8 (b.toNat : Int)) = (l.map byteVal).toArray := by
  have h1 : ((⟨l.toArray⟩ : ByteArray).extract 0 l.length).data = l.toArray := by
   simp [ByteArray.data_extract]
  rw [h1]
  simp [byteVal]
 unfold Builtin.firstCells
 simp only [Sem.run_pure]
 rw [hx]
theorem run_append_str (w : World) (ty : TypeId) (base g cap : Nat) (cur : Array Value) (xs l : List UInt8) (hb : base <= g) (hg : w.heap[g]? = some (.cells cur 5 (0, 0))) (hnc : xs.length <= cap) (hcm : cap <= maxLen) (hcs : cur.size = cap * 1) (ht : cur.toList.take (xs.map byteVal).length = xs.map byteVal)
 (h63 : xs.length + l.length <= 140737488355328) (hbase : base <= w.heap.size) :
 ∃ v' w', (Builtin.append_ #[56, 9] ty #[.slice (some ⟨g, 0, none⟩) xs.length cap, .string ⟨l.toArray⟩]).run Tryz.prog w = .ok v' w' /\
  w'.ownsRow base 5 1 v' (xs ++ l).length ((xs ++ l).map byteVal) /\ w.grownBy w' (some g) := by
 obtain ⟨i, hi, hz0, hz1, hz2⟩ := info_parts info_u8
 have hsz : (⟨l.toArray⟩ : ByteArray).size = l.length := by show l.toArray.size = _; rw [List.size_toArray]
 have hu := Tryz.underlying56
 have hus := Tryz.underlying9
 have hlen : ((xs ++ l).map byteVal).length = (xs ++ l).length * 1 := by simp
 by_cases hroom : xs.length + l.length <= cap
 ·have hf := first_str Tryz.prog w l
  have hfit : xs.length + (l.map byteVal).length <= cur.size := by rw [List.length_map]; omega
  have hst := run_storeCells_at Tryz.prog g xs.length 5 (l.map byteVal) 0 cur w hg (by simpa using hfit) (bytes_one l)
  simp only [Nat.add_zero] at hst
  refine ⟨_, _, by
   simp [Builtin.append_, run_underlying hu, run_underlying hus, sizeOf, typeInfo, hi, hz1, Builtin.lenOf, hsz, hroom, hf, Addr.add_lit, hst]
   exact ⟨rfl, rfl⟩, ⟨hlen, .inr ⟨g, cap, _, by rw [List.length_append], hb, setRow_heap w g cur _ _ _ hg, by rw [List.length_append]; exact hroom, hcm, ?_, ?_⟩⟩, ⟨rfl, rfl, rfl, by simp, fun k _ hk => setRow_other w g k _ (fun e => hk (by rw [e]))⟩⟩
  ·simp only [List.size_toArray, List.length_append, List.length_take, List.length_drop, Array.length_toList, List.length_map] at hfit ⊢
   omega
  ·rw [List.length_map] at ht
   rw [ht]
   have e2 : (xs ++ l).length * 1 = ((xs ++ l).map byteVal).length := by simp
   rw [e2]
   show List.take _ (xs.map byteVal ++ (l.map byteVal ++ _)) = _
   rw [<- List.append_assoc, <- List.map_append]
   exact List.take_left
 ·have hf := first_str Tryz.prog w.drew l
  have hn : ¬ (xs.length + l.length <= cap) := hroom
  have h63' : ¬ (9223372036854775807 < ((xs.length : Int) + (l.length : Int))) := by omega
  have h48' : ¬ (281474976710656 < Builtin.nextslicecap (xs.length + l.length) cap * i.bytes) := by
   have := growslice_fits (need := xs.length + l.length) (old := cap) (bytes := 1) (by omega) (by omega)
   rw [hz2]; omega
  have holds : ∀ j v, (xs.map byteVal)[j]? = some v -> w.cell? ((⟨g, 0, none⟩ : Addr).add j) = some v := fun j v hj => by
   rw [Addr.add_lit, Nat.zero_add, cell_of_row w g j cur _ (0, 0) hg]
   rw [<- ht, List.getElem?_take] at hj
   split at hj
   ·simpa using hj
   ·cases hj
  have hfo := run_firstCells_some (P := Tryz.prog) w.drew 1 xs.length ⟨g, 0, none⟩ xs.length cap (xs.map byteVal) (by simp) (by simpa using holds)
  have hge := grownCap_ge w (xs.length + l.length) cap 5
  have hcm2 : grownCap w (xs.length + l.length) cap 5 <= maxLen := grownCap_le_maxLen w _ cap _ (by unfold maxLen; omega)
  refine ⟨_, _, by
   simp [Builtin.append_, run_underlying hu, run_underlying hus, sizeOf, typeInfo, zeroValue, hi, hz0, hz1, Builtin.lenOf, hsz, hn, h63', h48', Question.forced, hf, hfo, newRow]
   exact ⟨rfl, rfl⟩, ⟨hlen, .inr ⟨w.heap.size, grownCap w (xs.length + l.length) cap 5, _, by rw [List.length_append]; rfl, hbase, heap_alloc_new w.drew _, by rw [List.length_append]; exact hge, hcm2, ?_, ?_⟩⟩, ⟨rfl, rfl, rfl, by simp, fun k hk _ => heap_alloc_old w.drew _ hk⟩⟩
  ·have hG : (Question.appendCap (xs.length + l.length) cap 5).cut (w.tape w.drawn (Question.appendCap (xs.length + l.length) cap 5)) = grownCap w (xs.length + l.length) cap 5 := rfl
   rw [hG]
   simp only [Array.size_append, List.size_toArray, List.length_map, size_zeroCells, Value.cells]
   simp
   omega
  ·have e2 : (xs ++ l).length * 1 = ((xs ++ l).map byteVal).length := by simp
   rw [e2]
   simp only [Array.toList_append, List.map_append]
   rw [<- List.append_assoc]
   exact List.take_left
theorem run_app_str (w : World) (ty : TypeId) (base : Nat) (v : Value) (xs l : List UInt8) (hown : w.ownsRow base 5 1 v xs.length (xs.map byteVal)) (hpos : 0 < xs.length) (h63 : xs.length + l.length <= 140737488355328) (hbase : base <= w.heap.size) :
 ∃ v' w', (Builtin.append_ #[56, 9] ty #[v, .string ⟨l.toArray⟩]).run Tryz.prog w = .ok v' w' /\ w'.ownsRow base 5 1 v' (xs ++ l).length ((xs ++ l).map byteVal) /\ w.grownBy w' v.ownBlock := by
 obtain ⟨hl, h2⟩ := hown
 rcases h2 with ⟨_, h0⟩ | ⟨g, cap, cur, rfl, hb, hh, hnc, hcm, hcs, ht⟩
 ·omega
 ·exact run_append_str w ty base g cap cur xs l hb hh hnc hcm hcs (by simpa using ht) h63 hbase
theorem wp_app_str {o : Oper} {a : Act} {K : Act -> World -> Prop} {Q : Exit -> Act -> World -> Prop} (w : World) (s x : Operand) (ho : o.op = .call { callee := .builtin .append, args := #[s, x], argTypes := #[56, 9] })
 (base : Nat) (v : Value) (xs l : List UInt8) (hs : a.eval s = v) (hx : a.eval x = .string ⟨l.toArray⟩) (hown : w.ownsRow base 5 1 v xs.length (xs.map byteVal)) (hpos : 0 < xs.length) (h63 : xs.length + l.length <= 140737488355328) (hbase : base <= w.heap.size)
 (h : ∀ v' w', w'.ownsRow base 5 1 v' (xs ++ l).length ((xs ++ l).map byteVal) -> w.grownBy w' v.ownBlock -> K (a.put o.dst v') w') : o.wp Tryz.prog a w K Q := by
 obtain ⟨v', w', h1, h2, h3⟩ := run_app_str w o.type base v xs l hown hpos h63 hbase
 unfold Oper.wp
 simp [execOp, ho, resolve, invoke, builtin, hs, hx, h1, Result.andThen]
 exact h v' w' h2 h3
theorem step_app_str {ops : Array Oper} {o : Oper} {a : Act} {K : Act -> World -> Prop} {Q : Exit -> Act -> World -> Prop} {E : Prop} (w : World) (hgd : o.guard = none) (s x : Operand) (ho : o.op = .call { callee := .builtin .append, args := #[s, x], argTypes := #[56, 9] })
 (base : Nat) (v : Value) (xs l : List UInt8) (hs : a.eval s = v) (hx : a.eval x = .string ⟨l.toArray⟩) (hown : w.ownsRow base 5 1 v xs.length (xs.map byteVal)) (hpos : 0 < xs.length) (h63 : xs.length + l.length <= 140737488355328) (hbase : base <= w.heap.size)
 (h : ∀ v' w', w'.ownsRow base 5 1 v' (xs ++ l).length ((xs ++ l).map byteVal) -> w.grownBy w' v.ownBlock -> K (a.put o.dst v') w') : if Region.wanted o (yielded ops a.tmps) = true then Oper.wp Tryz.prog o a w K Q else E := by
 have hw : Region.wanted o (yielded ops a.tmps) = true := by simp [Region.wanted, hgd]
 rw [if_pos hw]
 exact wp_app_str w s x ho base v xs l hs hx hown hpos h63 hbase h
theorem step_app_b {ops : Array Oper} {o : Oper} {a : Act} {K : Act -> World -> Prop} {Q : Exit -> Act -> World -> Prop} {E : Prop} (w : World) (hgd : o.guard = none) (s x : Operand) (ho : o.op = .call { callee := .builtin .append, args := #[s, x], argTypes := #[56, 56] })
 (base : Nat) (v : Value) (xs : List UInt8) (hs : a.eval s = v) (hown : w.ownsRow base 5 1 v xs.length (xs.map byteVal)) (y : Value) (ys : List UInt8) (hx : a.eval x = y) (hr : Bs w y ys) (h63 : xs.length + ys.length <= 140737488355328) (hbase : base <= w.heap.size)
 (h : ∀ v' w', w'.ownsRow base 5 1 v' (xs ++ ys).length ((xs ++ ys).map byteVal) -> w.grownBy w' v.ownBlock -> K (a.put o.dst v') w') : if Region.wanted o (yielded ops a.tmps) = true then Oper.wp Tryz.prog o a w K Q else E := by
 have hw : Region.wanted o (yielded ops a.tmps) = true := by simp [Region.wanted, hgd]
 rw [if_pos hw]
 obtain ⟨i0, hi, hz0, hz1, hz2⟩ := info_parts info_u8
 obtain ⟨ad, cap, rfl, g1, g2, hn, g3, g4⟩ := hr.reads
 have e : (xs ++ ys).map byteVal = xs.map byteVal ++ ys.map byteVal := by simp
 cases ad with
 | none =>
  obtain rfl := hn rfl
  obtain rfl : ys = [] := List.eq_nil_of_length_eq_zero (by rw [List.length_map] at g1; omega)
  have hrun := run_append_owned_none (P := Tryz.prog) (w := w) base 56 o.type 5 i0 1 Tryz.underlying56 hi v xs.length (xs.map byteVal) hown
  unfold Oper.wp
  simp [execOp, ho, resolve, invoke, builtin, hs, hx, hrun, Result.andThen]
  exact h v w (by simpa using hown) (World.grownBy.refl _ _)
 | some ad =>
  refine wp_append_own w s x 56 ho base 5 i0 (.int .u8 0) 1 1 Tryz.underlying56 hi hz0 hz1 hz2 rfl (by omega) v xs.length (xs.map byteVal) hs hown ad (ys.map byteVal).length cap (ys.map byteVal) hx (by simp) ?_ g3 (by unfold maxLen; simp; omega) (by simp; omega) hbase (fun v' w' a b _ => h v' w' (by rw [e]; simpa using a) b)
  intro j u hj
  rcases g4 with g4 | ⟨b, off, hb, hc⟩
  ·rw [g4] at hj; simp at hj
  ·obtain rfl := Option.some.inj hb
   rw [Addr.add_lit]; exact hc j u hj
end Go.Proofs.YtnjfioikpajhlaaGreat
