/- MWord: Put Get Sum Var ReadVar AppStr Open. -/
import Derived.Test.YtnjfioikpajhlaaProg
import Derived.Test.YtnjfioikpajhlaaMPlain
import Derived.Test.YtnjfioikpajhlaaMBase
import Derived.Test.YtnjfioikpajhlaaMBase
import Derived.WalkKit
import Derived.WalkLawsBesides
import Derived.WalkSpells
import Derived.Laws.Append
import Derived.Laws.AppendOwn
import Derived.Laws.AppendOwnNone
import Derived.OpenShut
import Derived.ChangeSlices
/- The walks of word.Put and jetwayref01.Put: a number as bytes, the highest first. -/
namespace Go.Proofs.Ytnjfioikpajhlaa
open Go.RowKit

namespace W
/-- The last k bytes of a number, the highest first. -/
def be : Nat → Nat → List UInt8
  | 0, _ => []
  | k + 1, n => UInt8.ofNat (n / 256 ^ k) :: be k n
theorem be_length (k n : Nat) : (be k n).length = k := by induction k with
  | zero => rfl
  | succ k ih => simp [be, ih]
theorem be_snoc (k n : Nat) : be (k + 1) n = be k (n / 256) ++ [UInt8.ofNat n] := by
  induction k with
  | zero => simp [be]
  | succ k ih =>
    rw [be, ih, be, List.cons_append, Nat.div_div_eq_div_mul, Nat.pow_succ, Nat.mul_comm]
/-- How many bytes are laid for a wanted size. -/
def sz (size : Int) : Nat := (min (max size 0) 8).toNat
end W

set_option maxRecDepth 100000 in
set_option maxHeartbeats 800000 in
theorem put_any (v : Value) (l : List UInt8) (n : Nat) (size : Int) (w : World) (_hn : n < 18446744073709551616) (h : Bs w v l) (hlen : l.length ≤ 1099511627776) (hs1 : -9223372036854775808 ≤ size) (hs2 : size ≤ 9223372036854775807) :
    Calls Try.prog 77 #[v, .int .u64 (n : Int), .int .i64 size] w fun e w' =>
      ∃ v', e = .returned v' ∧ w'.ownsRow w.heap.size 5 1 v' (l ++ W.be (W.sz size) n).length ((l ++ W.be (W.sz size) n).map byteVal) ∧ Ext w w' := by
  obtain ⟨i0, hi, hz0, hz1, hz2⟩ := info_parts info_u8
  have hR : Hid (Bs w v l) := h
  obtain ⟨a, cap, rfl⟩ := h.shape
  obtain ⟨B, hB⟩ : ∃ B, B = w.heap.size := ⟨_, rfl⟩
  rw [← hB]
  have HB : Hid (B = w.heap.size) := hB
  have hB' : B ≤ w.heap.size := by omega
  clear hB
  go_enter Try.func77, Try.ntmps77
  go_wp2_with (first
    | (at_make; refine wpl_make _ rfl _ _ 59 rfl B 5 i0 (.int .u8 0) Try.underlying59 hi hz0 hz1 rfl _ _ _ _ l.length (l.length + 8) rfl rfl rfl (by omega) (by omega) (by rw [hz2]; omega) (by unfold maxLen; omega) hB' ?_; intro w1 hown1 hext1 hg1)
    | ((with_reducible show wpList _ _ _ (⟨_, Op.call ⟨.builtin .copy, _, _⟩, _, _, _, _⟩ :: _) _ _); refine wpl_copy _ rfl _ _ _ _ rfl 5 Try.underlying59 size_u8 B _ l.length _ (by rfl) hown1 _ (l.map byteVal) (by rfl) (hR.out.ext hext1).reads l.length (by simp) (by omega) ?_; intro w2 hown2 hg2))
  all_goals
    have hext2 : Ext w w2 := hext1.grown hg2 (by intro k hk; simp [Value.ownBlock] at hk; omega)
    have hown3 : w2.ownsRow B 5 1 (.slice (some ⟨w.heap.size, 0, none⟩) l.length (l.length + 8)) (l ++ []).length ((l ++ []).map byteVal) := by
      simpa using hown2
    clear hown1 hg1 hg2 hown2 hext1
    go_loopw [7, 8] (fun ov iv wr => ∃ k : Nat, ∃ pre : List UInt8, k ≤ 8 ∧ pre.length ≤ 8 ∧ Hid (pre ++ W.be k n = W.be (W.sz size) n) ∧ iv = .int .i64 ((k : Int) - 1) ∧ wr.ownsRow B 5 1 ov (l ++ pre).length ((l ++ pre).map byteVal) ∧ Ext w wr) (fun _ iv _ => (intOf iv + 1).toNat)
    case atStart =>
      refine ⟨W.sz size, [], by unfold W.sz; omega, by simp, rfl, ?_, hown3, hext2⟩
      unfold W.sz
      congr 1
      omega
    case round =>
      obtain ⟨k, pre, hk, hpl, hp, rfl, hown, hx⟩ := hrel
      have hsz := hx.size
      match k, hk, hp with
      | 0, hk, hp =>
        have e : l ++ pre = l ++ W.be (W.sz size) n := by rw [← hp.out]; simp [W.be]
        rw [e] at hown
        go_wp2
        go_ret
        exact ⟨_, rfl, hown, hx⟩
      | k + 1, hk, hp =>
        have e : (((k + 1 : Nat) : Int) - 1) = (k : Int) := by omega
        rw [e]
        clear e
        have hv : Hid (Value.int .u8 ((n : Int) / 2 ^ (8 * k) % 256) = byteVal (UInt8.ofNat (n / 256 ^ k))) := by
          unfold Hid byteVal
          rw [W.u8_of, show (256 : Nat) = 2 ^ 8 from rfl, ← Nat.pow_mul]
          simp
        have hb1 : Reads (wr.alloc (.cells #[.int .u8 ((n : Int) / 2 ^ (8 * k) % 256)] 5)) (.slice (some ⟨wr.heap.size, 0, none⟩) 1 1) [byteVal (UInt8.ofNat (n / 256 ^ k))] := by
          rw [hv.out]; exact Reads.one wr _ _ rfl
        have HR := Lib.hid hb1
        clear hb1
        go_wp2_with (at_builtin; refine wpl_append _ rfl _ _ 59 rfl B 5 i0 (.int .u8 0) 1 Try.underlying59 hi hz0 hz1 hz2 rfl _ _ _ (by rfl) (hown.alloc _) _ _ (by rfl) HR.out (by simp; unfold maxLen; omega) (by simp; omega) (by simp; omega) ?_; intro v' w1 hown' hgrow)
        have hown2 : w1.ownsRow B 5 1 v' (l ++ (pre ++ [UInt8.ofNat (n / 256 ^ k)])).length ((l ++ (pre ++ [UInt8.ofNat (n / 256 ^ k)])).map byteVal) := by
          have e : (l ++ (pre ++ [UInt8.ofNat (n / 256 ^ k)])) = (l ++ pre) ++ [UInt8.ofNat (n / 256 ^ k)] := by simp
          rw [e, List.map_append, List.length_append]; exact hown'
        have hx2 : Ext w w1 := (hx.alloc _).grown hgrow (fun k hk => by have := (hown.lt k hk).1; have := HB.out; omega)
        have hp2 : Hid ((pre ++ [UInt8.ofNat (n / 256 ^ k)]) ++ W.be k n = W.be (W.sz size) n) := by
          unfold Hid; rw [← hp.out, W.be]; simp
        have hpl2 : (pre ++ [UInt8.ofNat (n / 256 ^ k)]).length ≤ 8 := by
          have h1 := congrArg List.length hp2.out
          rw [List.length_append, W.be_length, W.be_length] at h1
          have h2 : W.sz size ≤ 8 := by unfold W.sz; omega
          omega
        clear hown' hgrow
        go_roundw
        case rel => exact ⟨k, _, by omega, hpl2, hp2, by first | rfl | (congr 1; omega), hown2, hx2⟩
        case measure => (simp [intOf]; try omega)

end Go.Proofs.Ytnjfioikpajhlaa
/- The walks of word.Get and jetwayref01.Get: the number at a place. -/
namespace Go.Proofs.Ytnjfioikpajhlaa
open Go.RowKit

namespace W
/-- The number that bytes are, the highest first. -/
def num (l : List UInt8) : Nat := l.foldl (fun n x => n * 256 + x.toNat) 0
theorem num_snoc (l : List UInt8) (x : UInt8) : num (l ++ [x]) = num l * 256 + x.toNat := by simp [num]
theorem numF_lt (l : List UInt8) (a : Nat) : l.foldl (fun n x => n * 256 + x.toNat) a < (a + 1) * 256 ^ l.length := by
  induction l generalizing a with
  | nil => simp
  | cons x l ih =>
    have h := ih (a * 256 + x.toNat)
    have hx := x.toNat_lt
    have h2 : (a * 256 + x.toNat + 1) * 256 ^ l.length ≤ ((a + 1) * 256) * 256 ^ l.length := Nat.mul_le_mul_right _ (by omega)
    rw [List.foldl_cons, List.length_cons, Nat.pow_succ, Nat.mul_comm (256 ^ l.length), ← Nat.mul_assoc]
    omega
theorem num_lt (l : List UInt8) : num l < 256 ^ l.length := by simpa [num] using numF_lt l 0
theorem num_lt8 (l : List UInt8) (h : l.length ≤ 8) : num l < 18446744073709551616 := by
  have h1 := num_lt l
  have h2 : (256 : Nat) ^ l.length ≤ 256 ^ 8 := Nat.pow_le_pow_right (by omega) h
  have h3 : (256 : Nat) ^ 8 = 18446744073709551616 := by decide
  omega
theorem num_lt7 (l : List UInt8) (h : l.length ≤ 7) : num l < 72057594037927936 := by
  have h1 := num_lt l
  have h2 : (256 : Nat) ^ l.length ≤ 256 ^ 7 := Nat.pow_le_pow_right (by omega) h
  have h3 : (256 : Nat) ^ 7 = 72057594037927936 := by decide
  omega
/-- The answer: the number and the error's number. -/
def get (l : List UInt8) (at_ size : Int) : Nat × Nat :=
  if size < 1 ∨ 8 < size ∨ at_ < 0 then (0, 1) else if (l.length : Int) < size ∨ (l.length : Int) - size < at_ then (0, 5)
  else (num ((l.drop at_.toNat).take size.toNat), 0)
theorem get_range (l : List UInt8) (a s : Int) (h : s < 1 ∨ 8 < s ∨ a < 0) : get l a s = (0, 1) := by simp [get, h]
theorem get_short (l : List UInt8) (a s : Int) (h : ¬ (s < 1 ∨ 8 < s ∨ a < 0)) (h2 : (l.length : Int) < s ∨ (l.length : Int) - s < a) : get l a s = (0, 5) := by
  unfold get; rw [if_neg h, if_pos h2]
theorem get_ok (l : List UInt8) (a s : Int) (h : ¬ (s < 1 ∨ 8 < s ∨ a < 0)) (h2 : ¬ ((l.length : Int) < s ∨ (l.length : Int) - s < a)) : get l a s = (num ((l.drop a.toNat).take s.toNat), 0) := by
  unfold get; rw [if_neg h, if_neg h2]
/-- 'n<<8 | uint64(x)'. -/
theorem or8 (n : Nat) (x : UInt8) (hn : n < 72057594037927936) : bits BinOp.or IntKind.u64 ((n : Int) * 256) (x.toNat : Int) = ((n * 256 + x.toNat : Nat) : Int) := by
  have hx := x.toNat_lt
  have e : ((n : Int) * 256) = ((n * 256 : Nat) : Int) := by omega
  rw [e, bits_or_u64_nat _ _ (by omega) (by omega)]
  congr 1
  have h := add_mul_or x.toNat n 8 (by omega)
  rw [Nat.or_comm, show (256 : Nat) = 2 ^ 8 from rfl, h]; omega
theorem take_snoc (l : List UInt8) (a k : Nat) (h : a + k < l.length) : (l.drop a).take (k + 1) = (l.drop a).take k ++ [l[a + k]] := by
  rw [List.take_succ_eq_append_getElem (by simp; omega)]; simp
end W

set_option maxRecDepth 100000 in
set_option maxHeartbeats 800000 in
theorem get_range (v : Value) (l : List UInt8) (at_ size : Int) (w : World) (h : Bs w v l) (h1 : size < 1 ∨ 8 < size ∨ at_ < 0) :
    Calls Try.prog 67 #[v, .int .i64 at_, .int .i64 size] w fun e w' => e = .returned (.tuple #[.int .u64 ((W.get l at_ size).1 : Int), .int .i64 ((W.get l at_ size).2 : Int)]) ∧ w = w' := by
  have hg : Hid (W.get l at_ size = (0, 1)) := W.get_range _ _ _ h1
  obtain ⟨a, cap, rfl⟩ := h.shape
  have fin : Ending.returned (.tuple #[.int .u64 0, .int .i64 1]) = Ending.returned (.tuple #[.int .u64 ((W.get l at_ size).1 : Int), .int .i64 ((W.get l at_ size).2 : Int)]) := by rw [hg.out]; rfl
  have FIN := Lib.hid fin
  clear fin h
  by_cases c1 : size < 1
  · clear h1
    go_enter Try.func67, Try.ntmps67
    go_wp2
    go_ret2
    exact ⟨FIN.out, rfl⟩
  · by_cases c2 : 8 < size
    · clear h1
      go_enter Try.func67, Try.ntmps67
      go_wp2
      go_ret2
      exact ⟨FIN.out, rfl⟩
    · have c3 : at_ < 0 := by omega
      clear h1
      go_enter Try.func67, Try.ntmps67
      go_wp2
      go_ret2
      exact ⟨FIN.out, rfl⟩

set_option maxRecDepth 100000 in
set_option maxHeartbeats 800000 in
theorem get_short (v : Value) (l : List UInt8) (at_ size : Int) (w : World) (h : Bs w v l) (hat : at_ ≤ 9223372036854775807) (h1 : ¬ (size < 1 ∨ 8 < size ∨ at_ < 0)) (h2 : (l.length : Int) < size ∨ (l.length : Int) - size < at_) :
    Calls Try.prog 67 #[v, .int .i64 at_, .int .i64 size] w fun e w' => e = .returned (.tuple #[.int .u64 ((W.get l at_ size).1 : Int), .int .i64 ((W.get l at_ size).2 : Int)]) ∧ w = w' := by
  have hg : Hid (W.get l at_ size = (0, 5)) := W.get_short _ _ _ h1 h2
  obtain ⟨a, cap, rfl⟩ := h.shape
  have fin : Ending.returned (.tuple #[.int .u64 0, .int .i64 5]) = Ending.returned (.tuple #[.int .u64 ((W.get l at_ size).1 : Int), .int .i64 ((W.get l at_ size).2 : Int)]) := by rw [hg.out]; rfl
  have FIN := Lib.hid fin
  clear fin
  have hl := h.length_le
  clear h
  have c1 : 1 ≤ size := by omega
  have c2 : size ≤ 8 := by omega
  have c3 : 0 ≤ at_ := by omega
  clear h1
  by_cases c4 : (l.length : Int) < size
  · clear h2
    go_enter Try.func67, Try.ntmps67
    go_wp2
    go_ret2
    exact ⟨FIN.out, rfl⟩
  · have c5 : (l.length : Int) - size < at_ := by omega
    clear h2
    go_enter Try.func67, Try.ntmps67
    go_wp2
    go_ret2
    exact ⟨FIN.out, rfl⟩

set_option maxRecDepth 100000 in
set_option maxHeartbeats 800000 in
theorem get_ok (b off cap : Nat) (l : List UInt8) (at_ size : Nat) (w : World) (hcap : l.length ≤ cap) (hcm : cap ≤ 9223372036854775807)
    (h1 : 1 ≤ size) (h8 : size ≤ 8) (h2 : at_ + size ≤ l.length)
    (hc : Hid (∀ i (h : i < l.length), w.cell? ⟨b, off + i, none⟩ = some (.int .u8 (l[i].toNat : Int)))) :
    Calls Try.prog 67 #[.slice (some ⟨b, off, none⟩) l.length cap, .int .i64 at_, .int .i64 size] w fun e w' => e = .returned (.tuple #[.int .u64 ((W.num ((l.drop at_).take size) : Nat) : Int), .int .i64 0]) ∧ w = w' := by
  have hl : l.length ≤ 9223372036854775807 := by omega
  have b1 : decide ((size : Int) < 1) = false := by simp; omega
  have b2 : decide (8 < (size : Int)) = false := by simp; omega
  have b3 : decide ((at_ : Int) < 0) = false := by simp
  have b4 : decide (l.length < size) = false := by simp; omega
  have b5 : decide ((l.length : Int) - (size : Int) < (at_ : Int)) = false := by simp; omega
  go_enter Try.func67, Try.ntmps67
  go_wp2
  go_loop [8, 40] (fun nv iv => ∃ k m : Nat, k ≤ size ∧ Hid (m = W.num ((l.drop at_).take k)) ∧ nv = .int .u64 m ∧ iv = .int .i64 k) (fun _ iv => size - (intOf iv).toNat)
  case atStart => exact ⟨0, 0, by omega, rfl, rfl, rfl⟩
  case round =>
    obtain ⟨k, m, hk, hm, rfl, rfl⟩ := hrel
    by_cases hks : k < size
    · have hcell := hc.out (at_ + k) (by omega)
      rw [← Nat.add_assoc] at hcell
      have hm7 : m < 72057594037927936 := by rw [hm.out]; exact W.num_lt7 _ (by simp; omega)
      have hx := (l[at_ + k]'(by omega)).toNat_lt
      have hn2 : Hid (m * 256 + (l[at_ + k]'(by omega)).toNat = W.num ((l.drop at_).take (k + 1))) := by
        unfold Hid; rw [W.take_snoc l at_ k (by omega), W.num_snoc, ← hm.out]
      go_wp2
      go_round
      case rel => exact ⟨k + 1, _, by omega, hn2, congrArg (Value.int .u64) (W.or8 m _ hm7), by go_num⟩
      case measure => simp [intOf]; omega
    · have hfin : Hid (W.num ((l.drop at_).take size) = m) := by rw [hm.out, show k = size by omega]; rfl
      go_wp2
      go_ret2
      exact ⟨by rw [hfin.out]; rfl, rfl⟩

theorem get_any (v : Value) (l : List UInt8) (at_ size : Int) (w : World) (h : Bs w v l) (hat : at_ ≤ 9223372036854775807) :
    Calls Try.prog 67 #[v, .int .i64 at_, .int .i64 size] w fun e w' => e = .returned (.tuple #[.int .u64 ((W.get l at_ size).1 : Int), .int .i64 ((W.get l at_ size).2 : Int)]) ∧ w = w' := by
  by_cases h1 : size < 1 ∨ 8 < size ∨ at_ < 0
  · exact get_range v l at_ size w h h1
  · by_cases h2 : (l.length : Int) < size ∨ (l.length : Int) - size < at_
    · exact get_short v l at_ size w h hat h1 h2
    · rw [W.get_ok _ _ _ h1 h2]
      rcases h.open with ⟨a, cap, rfl, rfl, _⟩ | ⟨b, off, cap, rfl, hp, hlc, hcm, hb, hc⟩
      · simp at h2; omega
      · unfold maxLen at hcm
        have := get_ok b off cap l at_.toNat size.toNat w hlc (by omega) (by omega) (by omega) (by omega) hc
        rw [Int.toNat_of_nonneg (by omega), Int.toNat_of_nonneg (by omega)] at this
        exact this

end Go.Proofs.Ytnjfioikpajhlaa
/- The walk of word.Sum: a check sum over parts. -/
namespace Go.Proofs.Ytnjfioikpajhlaa
open Go.RowKit

/-- The slice of slices v reads as the byte lists ls. -/
def Rows2 (w : World) (v : Value) (ls : List (List UInt8)) : Prop :=
  ∃ vs, Reads w v vs ∧ vs.length = ls.length ∧ ∀ i (h : i < ls.length), ∃ u, vs[i]? = some u ∧ Bs w u ls[i]
theorem Rows2.ext {w w' : World} {v : Value} {ls : List (List UInt8)} (h : Rows2 w v ls) (he : Ext w w') : Rows2 w' v ls := by
  obtain ⟨vs, h1, h2, h3⟩ := h
  exact ⟨vs, h1.ext he, h2, fun i hi => let ⟨u, a, b⟩ := h3 i hi; ⟨u, a, b.ext he⟩⟩
theorem Rows2.open {w : World} {v : Value} {ls : List (List UInt8)} (h : Rows2 w v ls) : ls.length ≤ 9223372036854775807 ∧
    ((∃ a cap, v = .slice a 0 cap ∧ ls = []) ∨
    (∃ b off cap, v = .slice (some ⟨b, off, none⟩) ls.length cap ∧ 0 < ls.length ∧ ∀ i (h : i < ls.length), ∃ u, Bs w u ls[i] ∧ w.cell? ⟨b, off + i, none⟩ = some u)) := by
  obtain ⟨vs, ⟨a, cap, hv, h1, h2, hn, h3, h4⟩, hl, hr⟩ := h
  unfold maxLen at h2
  rw [hl] at hv h1
  refine ⟨by omega, ?_⟩
  by_cases h0 : ls = []
  · subst h0; exact .inl ⟨a, cap, hv, rfl⟩
  · have hp : 0 < ls.length := List.length_pos_iff.2 h0
    rcases h4 with h4 | ⟨b, off, rfl, hc⟩
    · subst h4; simp at hl; omega
    · refine .inr ⟨b, off, cap, hv, hp, fun i hi => ?_⟩
      obtain ⟨u, hu, hb⟩ := hr i hi
      exact ⟨u, hb, hc i u hu⟩
theorem Rows2.one {w : World} {v u : Value} {l : List UInt8} (hv : Reads w v [u]) (hu : Bs w u l) : Rows2 w v [l] :=
  ⟨[u], hv, rfl, fun i hi => by
    match i, hi with
    | 0, _ => exact ⟨u, rfl, hu⟩⟩

namespace S
/-- The sum's state behind some parts. -/
def runs (c : BitVec 32) (ls : List (List UInt8)) : BitVec 32 := run c ls.flatten
theorem runs_take (c : BitVec 32) (ls : List (List UInt8)) (k : Nat) (h : k < ls.length) : runs c (ls.take (k + 1)) = run (runs c (ls.take k)) ls[k] := by
  unfold runs
  rw [List.take_succ_eq_append_getElem h, List.flatten_append, run_append]
  simp
theorem run_take (c : BitVec 32) (l : List UInt8) (k : Nat) (h : k < l.length) : run c (l.take (k + 1)) = by1 (run c (l.take k)) l[k] := by
  rw [List.take_succ_eq_append_getElem h, run_snoc]
theorem by_walk (c : BitVec 32) (x : UInt8) : bits BinOp.xor IntKind.u32 (c.toNat : Int) (x.toNat : Int) = ((c ^^^ BitVec.ofNat 32 x.toNat).toNat : Int) := by
  have hx := x.toNat_lt
  have h := xor32 c (BitVec.ofNat 32 x.toNat)
  rw [BitVec.toNat_ofNat, Nat.mod_eq_of_lt (by omega)] at h
  exact h
theorem by_walk2 (c : BitVec 32) (x : UInt8) : bits BinOp.xor IntKind.u32 (c.toNat : Int) ((x.toNat : Int) % 4294967296) = ((c ^^^ BitVec.ofNat 32 x.toNat).toNat : Int) := by
  have hx := x.toNat_lt
  rw [Int.emod_eq_of_lt (by omega) (by omega)]
  exact by_walk c x
theorem st_walk2 (c : BitVec 32) : bits BinOp.xor IntKind.u32 ((c.toNat : Int) / 2) (bits BinOp.and IntKind.u32 3988292384 (-(bits BinOp.and IntKind.u32 (c.toNat : Int) 1) % 4294967296)) = ((st c).toNat : Int) := by
  rw [← IntKind.wrap_u32']; exact st_walk c
theorem not_walk (c : BitVec 32) : bits BinOp.xor IntKind.u32 IntKind.u32.max (c.toNat : Int) = ((~~~ c).toNat : Int) := by
  have h := xor32 (~~~ 0#32) c
  have e : (((~~~ 0#32).toNat : Nat) : Int) = IntKind.u32.max := by decide
  rw [e] at h
  rw [h]
  have : ~~~ 0#32 ^^^ c = ~~~ c := by
    rw [show ~~~ 0#32 = BitVec.allOnes 32 from rfl, BitVec.allOnes_xor]
  rw [this]
end S

set_option maxRecDepth 100000 in
set_option maxHeartbeats 1600000 in
theorem sum_cons (b off cap : Nat) (ls : List (List UInt8)) (w : World) (hl : ls.length ≤ 9223372036854775807) (hp : 0 < ls.length)
    (hr : Hid (∀ i (h : i < ls.length), ∃ u, Bs w u ls[i] ∧ w.cell? ⟨b, off + i, none⟩ = some u)) :
    Calls Try.prog 78 #[.slice (some ⟨b, off, none⟩) ls.length cap] w fun e w' => e = .returned (.int .u32 (S.sum ls.flatten : Int)) ∧ w = w' := by
  go_enter Try.func78, Try.ntmps78
  go_wp2
  go_loop [3, 10] (fun c i => ∃ k : Nat, ∃ d : BitVec 32, k ≤ ls.length ∧ Hid (d = S.runs (~~~ 0#32) (ls.take k)) ∧ i = .int .i64 k ∧ c = .int .u32 (d.toNat : Int)) (fun _ i => ls.length - (intOf i).toNat)
  case atStart => exact ⟨0, ~~~ 0#32, by omega, rfl, rfl, by rw [show (~~~ 0#32).toNat = 4294967295 from by decide]; rfl⟩
  case round =>
    obtain ⟨k, d, hk, hd, rfl, rfl⟩ := hrel
    by_cases hlt : k < ls.length
    · obtain ⟨u, hu, hcell⟩ := hr.out k hlt
      have hll := hu.length_le
      rcases hu.open with ⟨a, cp, rfl, he, _, _⟩ | ⟨b2, off2, cp, rfl, hp2, _, _, _, hc2⟩
      · have hd2 : Hid (d = S.runs (~~~ 0#32) (ls.take (k + 1))) := by
          unfold Hid; rw [S.runs_take _ _ _ hlt, he, ← hd.out]; rfl
        clear he
        go_wp2
        refine wp_loop_rounds 1 ?_
        rw [rounds_succ]
        go_wp2
        go_round
        case rel => exact ⟨k + 1, d, by omega, hd2, by go_num, rfl⟩
        case measure => simp [intOf]; omega
      · have hc2' := Lib.hid hc2
        clear hc2
        go_wp2
        go_loop [3, 16] (fun c i => ∃ j : Nat, ∃ e : BitVec 32, j ≤ ls[k].length ∧ Hid (e = S.run d (ls[k].take j)) ∧ i = .int .i64 j ∧ c = .int .u32 (e.toNat : Int)) (fun _ i => ls[k].length - (intOf i).toNat)
        case atStart => exact ⟨0, d, by omega, rfl, rfl, rfl⟩
        case round =>
          obtain ⟨j, e, hj, he, rfl, rfl⟩ := hrel
          by_cases hjl : j < ls[k].length
          · have hcell2 := hc2'.out j hjl
            go_wp2
            go_loop [3, 24] (fun c i => ∃ q : Nat, ∃ f : BitVec 32, q ≤ 8 ∧ Hid (f = S.stN q (e ^^^ BitVec.ofNat 32 (ls[k][j]).toNat)) ∧ i = .int .i64 q ∧ c = .int .u32 (f.toNat : Int)) (fun _ i => 8 - (intOf i).toNat)
            case atStart => exact ⟨0, _, by omega, rfl, rfl, congrArg (Value.int .u32) (S.by_walk2 e ls[k][j])⟩
            case round =>
              obtain ⟨q, f, hq, hf, rfl, rfl⟩ := hrel
              by_cases hq8 : q < 8
              · have hf2 : Hid (S.st f = S.stN (q + 1) (e ^^^ BitVec.ofNat 32 (ls[k][j]).toNat)) := by
                  unfold Hid; rw [hf.out]; rfl
                go_wp2
                go_round
                case rel => exact ⟨q + 1, S.st f, by omega, hf2, by go_num, congrArg (Value.int .u32) (S.st_walk2 f)⟩
                case measure => simp [intOf]; omega
              · have hf2 : Hid (f = S.run d (ls[k].take (j + 1))) := by
                  unfold Hid; rw [S.run_take _ _ _ hjl, ← he.out, hf.out, show q = 8 by omega]; rfl
                go_wp2
                go_round
                case rel => exact ⟨j + 1, f, by omega, hf2, by go_num, rfl⟩
                case measure => simp [intOf]; omega
          · have hd2 : Hid (e = S.runs (~~~ 0#32) (ls.take (k + 1))) := by
              unfold Hid; rw [S.runs_take _ _ _ hlt, ← hd.out, he.out, List.take_of_length_le (by omega)]
            go_wp2
            go_round
            case rel => exact ⟨k + 1, e, by omega, hd2, by go_num, rfl⟩
            case measure => simp [intOf]; omega
    · have hd2 : Hid ((S.sum ls.flatten : Int) = ((~~~ d).toNat : Int)) := by
        unfold Hid; rw [hd.out, List.take_of_length_le (by omega)]; rfl
      go_wp2
      go_ret
      exact ⟨by rw [S.not_walk, hd2.out]; rfl, rfl⟩

set_option maxRecDepth 100000 in
theorem sum_nil (a : Option Addr) (cap : Nat) (w : World) :
    Calls Try.prog 78 #[.slice a 0 cap] w fun e w' => e = .returned (.int .u32 (S.sum [] : Int)) ∧ w = w' := by
  have hd2 : Hid ((S.sum [] : Int) = 0) := by unfold Hid; decide
  have hm : bits BinOp.xor IntKind.u32 IntKind.u32.max 4294967295 = 0 := by decide
  go_enter Try.func78, Try.ntmps78
  go_wp2
  refine wp_loop_rounds 1 ?_
  rw [rounds_succ]
  go_wp2
  go_ret
  exact ⟨by rw [hd2.out]; rfl, rfl⟩

theorem sum_any (v : Value) (ls : List (List UInt8)) (w : World) (h : Rows2 w v ls) :
    Calls Try.prog 78 #[v] w fun e w' => e = .returned (.int .u32 (S.sum ls.flatten : Int)) ∧ w = w' := by
  obtain ⟨hl, h⟩ := h.open
  rcases h with ⟨a, cap, rfl, rfl⟩ | ⟨b, off, cap, rfl, hp, hr⟩
  · exact sum_nil a cap w
  · exact sum_cons b off cap ls w hl hp hr
end Go.Proofs.Ytnjfioikpajhlaa
/- The walk of word.Var: bytes, and a number in as few as it takes. -/
namespace Go.Proofs.Ytnjfioikpajhlaa
open Go.RowKit

set_option maxRecDepth 100000 in
set_option maxHeartbeats 800000 in
theorem var_any (v : Value) (l : List UInt8) (n : Nat) (w : World) (hn : n < 18446744073709551616) (h : Bs w v l) (hlen : l.length ≤ 1099511627776) :
    Calls Try.prog 58 #[v, .int .u64 (n : Int)] w fun e w' =>
      ∃ v', e = .returned v' ∧ w'.ownsRow w.heap.size 5 1 v' (l ++ W.vb n).length ((l ++ W.vb n).map byteVal) ∧ Ext w w' := by
  obtain ⟨i0, hi, hz0, hz1, hz2⟩ := info_parts info_u8
  have hR : Hid (Bs w v l) := h
  obtain ⟨a, cap, rfl⟩ := h.shape
  obtain ⟨B, hB⟩ : ∃ B, B = w.heap.size := ⟨_, rfl⟩
  rw [← hB]
  have HB : Hid (B = w.heap.size) := hB
  have hB' : B ≤ w.heap.size := by omega
  clear hB
  go_enter Try.func58, Try.ntmps58
  go_wp2_with (first
    | (at_make; refine wpl_make _ rfl _ _ 59 rfl B 5 i0 (.int .u8 0) Try.underlying59 hi hz0 hz1 rfl _ _ _ _ l.length (l.length + 10) rfl rfl rfl (by omega) (by omega) (by rw [hz2]; omega) (by unfold maxLen; omega) hB' ?_; intro w1 hown1 hext1 hg1)
    | ((with_reducible show wpList _ _ _ (⟨some 14, Op.call _, _, _, _, _⟩ :: _) _ _); refine wpl_copy _ rfl _ _ _ _ rfl 5 Try.underlying59 size_u8 B _ l.length _ (by rfl) hown1 _ (l.map byteVal) (by rfl) (hR.out.ext hext1).reads l.length (by simp) (by omega) ?_; intro w2 hown2 hg2))
  have hext2 : Ext w w2 := hext1.grown hg2 (by intro k hk; simp [Value.ownBlock] at hk; omega)
  have hown3 : w2.ownsRow B 5 1 (.slice (some ⟨w.heap.size, 0, none⟩) l.length (l.length + 10)) (l ++ []).length ((l ++ []).map byteVal) := by
    simpa using hown2
  clear hown1 hg1 hg2 hown2 hext1 hR
  go_frame
  go_loopw [1, 5] (fun nv ov wr => ∃ m : Nat, ∃ pre : List UInt8, m < 18446744073709551616 ∧ Hid (pre ++ W.vb m = W.vb n) ∧ nv = .int .u64 m ∧ wr.ownsRow B 5 1 ov (l ++ pre).length ((l ++ pre).map byteVal) ∧ Ext w wr) (fun nv _ _ => (intOf nv).toNat)
  case atStart => exact ⟨n, [], hn, rfl, rfl, hown3, hext2⟩
  case round =>
    obtain ⟨m, pre, hm, hp, rfl, hown, hx⟩ := hrel
    have hv10 := W.vb_len10 n hn
    have hpl : pre.length ≤ 10 := by have := congrArg List.length hp.out; simp at this; omega
    clear hv10
    have hsz := hx.size
    by_cases h127 : m < 128
    · have hb1 : Reads (wr.alloc (.cells #[.int .u8 (m : Int)] 5)) (.slice (some ⟨wr.heap.size, 0, none⟩) 1 1) [byteVal (UInt8.ofNat m)] := by
        have e : byteVal (UInt8.ofNat m) = .int .u8 (m : Int) := by unfold byteVal; rw [W.u8_of, Nat.mod_eq_of_lt (by omega)]
        rw [e]; exact Reads.one wr _ _ rfl
      have HR := Lib.hid hb1
      clear hb1
      go_wp2_with (at_builtin; refine wpl_append _ rfl _ _ 59 rfl B 5 i0 (.int .u8 0) 1 Try.underlying59 hi hz0 hz1 hz2 rfl _ _ _ (by rfl) (hown.alloc _) _ _ (by rfl) HR.out (by simp; unfold maxLen; omega) (by simp; omega) (by simp; omega) ?_; intro v' w1 hown' hgrow)
      have hown2 : w1.ownsRow B 5 1 v' (l ++ W.vb n).length ((l ++ W.vb n).map byteVal) := by
        have e : (l ++ W.vb n) = (l ++ pre) ++ [UInt8.ofNat m] := by rw [← hp.out, W.vb_small m h127]; simp
        rw [e, List.map_append, List.length_append]; exact hown'
      have hx2 : Ext w w1 := (hx.alloc _).grown hgrow (fun k hk => by have := (hown.lt k hk).1; have := HB.out; omega)
      go_ret
      exact ⟨v', rfl, hown2, hx2⟩
    · have hb1 : Reads (wr.alloc (.cells #[.int .u8 (bits BinOp.or IntKind.u8 (IntKind.u8.wrap (m : Int)) 128)] 5)) (.slice (some ⟨wr.heap.size, 0, none⟩) 1 1) [byteVal (UInt8.ofNat (m % 128 + 128))] := by
        rw [W.or128]; exact Reads.one wr _ _ rfl
      have HR := Lib.hid hb1
      clear hb1
      go_wp2_with (at_builtin; refine wpl_append _ rfl _ _ 59 rfl B 5 i0 (.int .u8 0) 1 Try.underlying59 hi hz0 hz1 hz2 rfl _ _ _ (by rfl) (hown.alloc _) _ _ (by rfl) HR.out (by simp; unfold maxLen; omega) (by simp; omega) (by simp; omega) ?_; intro v' w1 hown' hgrow)
      have hown2 : w1.ownsRow B 5 1 v' (l ++ (pre ++ [UInt8.ofNat (m % 128 + 128)])).length ((l ++ (pre ++ [UInt8.ofNat (m % 128 + 128)])).map byteVal) := by
        have e : (l ++ (pre ++ [UInt8.ofNat (m % 128 + 128)])) = (l ++ pre) ++ [UInt8.ofNat (m % 128 + 128)] := by simp
        rw [e, List.map_append, List.length_append]; exact hown'
      have hx2 : Ext w w1 := (hx.alloc _).grown hgrow (fun k hk => by have := (hown.lt k hk).1; have := HB.out; omega)
      have hp2 : Hid ((pre ++ [UInt8.ofNat (m % 128 + 128)]) ++ W.vb (m / 128) = W.vb n) := by
        unfold Hid; rw [← hp.out, W.vb_more m h127]; simp
      clear hown' hgrow
      go_roundw
      case rel => exact ⟨m / 128, _, by omega, hp2, by simp, hown2, hx2⟩
      case measure => simp [intOf]; omega
end Go.Proofs.Ytnjfioikpajhlaa
/- The walk of word.ReadVar: what it computes of bytes that lie in memory. -/
namespace Go.Proofs.Ytnjfioikpajhlaa
open Go.RowKit

theorem ret3 {a b c a' b' c' : Int} (ha : a = a') (hb : b = b') (hc : c = c') :
    Ending.returned (.tuple #[.int .u64 a, .int .i64 b, .int .i64 c]) = .returned (.tuple #[.int .u64 a', .int .i64 b', .int .i64 c']) := by subst ha hb hc; rfl

set_option maxRecDepth 100000 in
set_option maxHeartbeats 400000 in
theorem readVar_cons (b off cap : Nat) (l : List UInt8) (w : World) (hl : l.length ≤ 1000000) (hne : 0 < l.length)
  (hc : ∀ i (h : i < l.length), w.cell? ⟨b, off + i, none⟩ = some (.int .u8 (l[i].toNat : Int))) :
    Calls Try.prog 79 #[.slice (some ⟨b, off, none⟩) l.length cap] w fun e w' =>
      e = .returned (.tuple #[.int .u64 ((W.rv l 0 0).1 : Int), .int .i64 ((W.rv l 0 0).2.1 : Int), .int .i64 ((W.rv l 0 0).2.2 : Int)]) ∧ w = w' := by
  go_enter Try.func79, Try.ntmps79
  go_wp2
  go_loop [2, 9] (fun n i => ∃ k : Nat, ∃ m : Nat, k ≤ l.length ∧ k ≤ 9 ∧ m < 128 ^ k ∧ W.rv l 0 0 = W.rv (l.drop k) k m ∧ i = .int .i64 k ∧ n = .int .u64 m) (fun _ i => l.length - (intOf i).toNat)
  case atStart => exact ⟨0, 0, by omega, by omega, by simp, by simp, rfl, rfl⟩
  case round =>
    obtain ⟨k, m, hk, hk9, hm0, hr0, rfl, rfl⟩ := hrel
    have hm : Hid (m < 128^k) := hm0
    have hr : Hid (W.rv l 0 0 = W.rv (l.drop k) k m) := hr0
    clear hm0 hr0
    by_cases hlt : k < l.length
    · have hcell := hc k hlt
      have hcons := W.drop_cons l k hlt
      have hr2 : Hid (W.rv l 0 0 = W.rv (l[k] :: l.drop (k + 1)) k m) := by unfold Hid; rw [← hcons]; exact hr.out
      clear hr hcons
      have hb := l[k].toNat_lt
      have hend : Hid (∀ v : Int, (¬ ((k = 9 ∧ 1 < l[k].toNat) ∨ (0 < k ∧ l[k].toNat = 0))) → l[k].toNat < 128 → v = (bits BinOp.or IntKind.u64 (m : Int) (IntKind.u64.wrap (IntKind.u64.wrap (bits BinOp.and IntKind.u8 (l[k].toNat : Int) 127) * 2 ^ (7 * k)))) →
          Ending.returned (.tuple #[.int .u64 v, .int .i64 ((k : Int) + 1), .int .i64 0]) = Ending.returned (.tuple #[.int .u64 ((W.rv l 0 0).1 : Int), .int .i64 ((W.rv l 0 0).2.1 : Int), .int .i64 ((W.rv l 0 0).2.2 : Int)])) := by
        intro v h1 h2 hv
        rw [hv, W.or_shl m l[k].toNat k hb hm.out hk9 (by omega), hr2.out, W.rv_end _ _ _ _ h1 h2]
        rfl
      have hbad : Hid (((k = 9 ∧ 1 < l[k].toNat) ∨ (0 < k ∧ l[k].toNat = 0)) →
          Ending.returned (.tuple #[.int .u64 0, .int .i64 0, .int .i64 4]) = Ending.returned (.tuple #[.int .u64 ((W.rv l 0 0).1 : Int), .int .i64 ((W.rv l 0 0).2.1 : Int), .int .i64 ((W.rv l 0 0).2.2 : Int)])) := by
        intro h
        rw [hr2.out, W.rv_bad _ _ _ _ h]; rfl
      have hmore : Hid ((¬ ((k = 9 ∧ 1 < l[k].toNat) ∨ (0 < k ∧ l[k].toNat = 0))) → ¬ l[k].toNat < 128 →
          k + 1 ≤ 9 ∧ m + l[k].toNat % 128 * 128 ^ k < 128 ^ (k + 1) ∧ W.rv l 0 0 = W.rv (l.drop (k + 1)) (k + 1) (m + l[k].toNat % 128 * 128 ^ k)
          ∧ Value.int .u64 (bits BinOp.or IntKind.u64 (m : Int) (IntKind.u64.wrap (IntKind.u64.wrap (bits BinOp.and IntKind.u8 (l[k].toNat : Int) 127) * 2 ^ (7 * k)))) = .int .u64 ((m + l[k].toNat % 128 * 128 ^ k : Nat) : Int)) := by
        intro h1 h2
        refine ⟨by omega, (W.step_lt m k l[k].toNat hm.out hk9 hb (by omega)).2, by rw [hr2.out, W.rv_more _ _ _ _ h1 h2], ?_⟩
        rw [W.or_shl m l[k].toNat k hb hm.out hk9 (by omega)]
      by_cases h9 : k = 9
      · subst h9
        by_cases hx : (1 : Int) < (l[9].toNat : Int)
        · go_wp2
          go_ret3
          exact ⟨hbad.out (by first | exact .inl ⟨rfl, by omega⟩ | (simp; omega)), rfl⟩
        · by_cases hx0 : (l[9].toNat : Int) = 0
          · have hxb : ((l[9].toNat : Int) == 0) = true := by simpa using hx0
            go_wp2
            go_ret3
            exact ⟨hbad.out (.inr ⟨by omega, by omega⟩), rfl⟩
          · have hxb : ((l[9].toNat : Int) == 0) = false := by simpa using hx0
            have hxl : (l[9].toNat : Int) < 128 := by omega
            go_wp2
            go_ret3
            exact ⟨hend.out _ (by rintro (⟨_, h⟩ | ⟨_, h⟩) <;> omega) (by omega) (by simp), rfl⟩
      · by_cases h0 : k = 0
        · subst h0
          have hcell : w.cell? ⟨b, off, none⟩ = some (.int .u8 (l[0].toNat : Int)) := by simpa using hcell
          by_cases hx : (l[0].toNat : Int) < 128
          · go_wp2
            go_ret3
            exact ⟨hend.out _ (by rintro (⟨_, h⟩ | ⟨_, h⟩) <;> omega) (by omega) (by simp), rfl⟩
          · go_wp2
            go_round
            case rel => (have H := hmore.out (by rintro (⟨_, h⟩ | ⟨_, h⟩) <;> omega) (by omega); exact ⟨1, _, by omega, H.1, H.2.1, H.2.2.1, rfl, by simpa using H.2.2.2⟩)
            case measure => simp [intOf]; omega
        · have hk0 : 0 < k := by omega
          by_cases hx0 : (l[k].toNat : Int) = 0
          · have hxb : ((l[k].toNat : Int) == 0) = true := by simpa using hx0
            go_wp2
            go_ret3
            exact ⟨hbad.out (.inr ⟨by omega, by omega⟩), rfl⟩
          · have hxb : ((l[k].toNat : Int) == 0) = false := by simpa using hx0
            by_cases hx : (l[k].toNat : Int) < 128
            · go_wp2
              go_ret3
              exact ⟨hend.out _ (by rintro (⟨_, h⟩ | ⟨_, h⟩) <;> omega) (by omega) rfl, rfl⟩
            · go_wp2
              go_round
              case rel => (have H := hmore.out (by rintro (⟨_, h⟩ | ⟨_, h⟩) <;> omega) (by omega); exact ⟨k + 1, _, by omega, H.1, H.2.1, H.2.2.1, by go_num, H.2.2.2⟩)
              case measure => simp [intOf]; omega
    · obtain rfl : k = l.length := by omega
      have hr3 : Hid (W.rv l 0 0 = (0, 0, 5)) := by unfold Hid; rw [hr.out]; simp [W.rv]
      go_wp2
      go_ret3
      exact ⟨by rw [hr3.out]; rfl, rfl⟩

set_option maxRecDepth 100000 in
theorem readVar_nil (a : Option Addr) (cap : Nat) (w : World) :
    Calls Try.prog 79 #[.slice a 0 cap] w fun e w' =>
      e = .returned (.tuple #[.int .u64 ((W.rv [] 0 0).1 : Int), .int .i64 ((W.rv [] 0 0).2.1 : Int), .int .i64 ((W.rv [] 0 0).2.2 : Int)]) ∧ w = w' := by
  go_enter Try.func79, Try.ntmps79
  go_wp2
  refine wp_loop_rounds 1 ?_
  rw [rounds_succ]
  go_wp2
  go_ret3
  exact ⟨rfl, rfl⟩
end Go.Proofs.Ytnjfioikpajhlaa
/- A string that is appended to bytes. -/
namespace Go.Proofs.Ytnjfioikpajhlaa
open Go.RowKit

theorem first_str (P : Program) (w : World) (l : List UInt8) : (Builtin.firstCells 1 l.length (.string ⟨l.toArray⟩)).run P w = .ok (l.map byteVal).toArray w := by
  have hx : (((⟨l.toArray⟩ : ByteArray).extract 0 l.length).data.map fun b => Value.int .u8 (b.toNat : Int)) = (l.map byteVal).toArray := by
    have h1 : ((⟨l.toArray⟩ : ByteArray).extract 0 l.length).data = l.toArray := by
      simp [ByteArray.data_extract]
    rw [h1]
    simp [byteVal]
  unfold Builtin.firstCells
  simp only [Sem.run_pure]
  rw [hx]
theorem run_append_str (w : World) (ty : TypeId) (base g cap : Nat) (cur : Array Value) (xs l : List UInt8) (hb : base ≤ g) (hg : w.heap[g]? = some (.cells cur 5 (0, 0))) (hnc : xs.length ≤ cap) (hcm : cap ≤ maxLen) (hcs : cur.size = cap * 1) (ht : cur.toList.take (xs.map byteVal).length = xs.map byteVal)
    (h63 : xs.length + l.length ≤ 140737488355328) (hbase : base ≤ w.heap.size) :
    ∃ v' w', (Builtin.append_ #[59, 9] ty #[.slice (some ⟨g, 0, none⟩) xs.length cap, .string ⟨l.toArray⟩]).run Try.prog w = .ok v' w' ∧
      w'.ownsRow base 5 1 v' (xs ++ l).length ((xs ++ l).map byteVal) ∧ w.grownBy w' (some g) := by
  obtain ⟨i, hi, hz0, hz1, hz2⟩ := info_parts info_u8
  have hsz : (⟨l.toArray⟩ : ByteArray).size = l.length := by show l.toArray.size = _; rw [List.size_toArray]
  have hu := Try.underlying59
  have hus := Try.underlying9
  have hlen : ((xs ++ l).map byteVal).length = (xs ++ l).length * 1 := by simp
  by_cases hroom : xs.length + l.length ≤ cap
  · have hf := first_str Try.prog w l
    have hfit : xs.length + (l.map byteVal).length ≤ cur.size := by rw [List.length_map]; omega
    have hst := run_storeCells_at Try.prog g xs.length 5 (l.map byteVal) 0 cur w hg (by simpa using hfit) (bytes_one l)
    simp only [Nat.add_zero] at hst
    refine ⟨_, _, by
      simp [Builtin.append_, run_underlying hu, run_underlying hus, sizeOf, typeInfo, hi, hz1, Builtin.lenOf, hsz, hroom, hf, Addr.add_lit, hst]
      exact ⟨rfl, rfl⟩, ⟨hlen, .inr ⟨g, cap, _, by rw [List.length_append], hb, setRow_heap w g cur _ _ _ hg, by rw [List.length_append]; exact hroom, hcm, ?_, ?_⟩⟩, ⟨rfl, rfl, rfl, by simp, fun k _ hk => setRow_other w g k _ (fun e => hk (by rw [e]))⟩⟩
    · simp only [List.size_toArray, List.length_append, List.length_take, List.length_drop, Array.length_toList, List.length_map] at hfit ⊢
      omega
    · rw [List.length_map] at ht
      rw [ht]
      have e2 : (xs ++ l).length * 1 = ((xs ++ l).map byteVal).length := by simp
      rw [e2]
      show List.take _ (xs.map byteVal ++ (l.map byteVal ++ _)) = _
      rw [← List.append_assoc, ← List.map_append]
      exact List.take_left
  · have hf := first_str Try.prog w.drew l
    have hn : ¬ (xs.length + l.length ≤ cap) := hroom
    have h63' : ¬ (9223372036854775807 < ((xs.length : Int) + (l.length : Int))) := by omega
    have h48' : ¬ (281474976710656 < Builtin.nextslicecap (xs.length + l.length) cap * i.bytes) := by
      have := growslice_fits (need := xs.length + l.length) (old := cap) (bytes := 1) (by omega) (by omega)
      rw [hz2]; omega
    have holds : ∀ j v, (xs.map byteVal)[j]? = some v → w.cell? ((⟨g, 0, none⟩ : Addr).add j) = some v := fun j v hj => by
      rw [Addr.add_lit, Nat.zero_add, cell_of_row w g j cur _ (0, 0) hg]
      rw [← ht, List.getElem?_take] at hj
      split at hj
      · simpa using hj
      · cases hj
    have hfo := run_firstCells_some (P := Try.prog) w.drew 1 xs.length ⟨g, 0, none⟩ xs.length cap (xs.map byteVal) (by simp) (by simpa using holds)
    have hge := grownCap_ge w (xs.length + l.length) cap 5
    have hcm2 : grownCap w (xs.length + l.length) cap 5 ≤ maxLen := grownCap_le_maxLen w _ cap _ (by unfold maxLen; omega)
    refine ⟨_, _, by
      simp [Builtin.append_, run_underlying hu, run_underlying hus, sizeOf, typeInfo, zeroValue, hi, hz0, hz1, Builtin.lenOf, hsz, hn, h63', h48', Question.forced, hf, hfo, newRow]
      exact ⟨rfl, rfl⟩, ⟨hlen, .inr ⟨w.heap.size, grownCap w (xs.length + l.length) cap 5, _, by rw [List.length_append]; rfl, hbase, heap_alloc_new w.drew _, by rw [List.length_append]; exact hge, hcm2, ?_, ?_⟩⟩, ⟨rfl, rfl, rfl, by simp, fun k hk _ => heap_alloc_old w.drew _ hk⟩⟩
    · have hG : (Question.appendCap (xs.length + l.length) cap 5).cut (w.tape w.drawn (Question.appendCap (xs.length + l.length) cap 5)) = grownCap w (xs.length + l.length) cap 5 := rfl
      rw [hG]
      simp only [Array.size_append, List.size_toArray, List.length_map, size_zeroCells, Value.cells]
      simp
      omega
    · have e2 : (xs ++ l).length * 1 = ((xs ++ l).map byteVal).length := by simp
      rw [e2]
      simp only [Array.toList_append, List.map_append]
      rw [← List.append_assoc]
      exact List.take_left

/-- The same, the bytes known to be owned. -/
theorem run_app_str (w : World) (ty : TypeId) (base : Nat) (v : Value) (xs l : List UInt8) (hown : w.ownsRow base 5 1 v xs.length (xs.map byteVal)) (hpos : 0 < xs.length) (h63 : xs.length + l.length ≤ 140737488355328) (hbase : base ≤ w.heap.size) :
    ∃ v' w', (Builtin.append_ #[59, 9] ty #[v, .string ⟨l.toArray⟩]).run Try.prog w = .ok v' w' ∧ w'.ownsRow base 5 1 v' (xs ++ l).length ((xs ++ l).map byteVal) ∧ w.grownBy w' v.ownBlock := by
  obtain ⟨hl, h2⟩ := hown
  rcases h2 with ⟨_, h0⟩ | ⟨g, cap, cur, rfl, hb, hh, hnc, hcm, hcs, ht⟩
  · omega
  · exact run_append_str w ty base g cap cur xs l hb hh hnc hcm hcs (by simpa using ht) h63 hbase
theorem wp_app_str {o : Oper} {a : Act} {K : Act → World → Prop} {Q : Exit → Act → World → Prop} (w : World) (s x : Operand) (ho : o.op = .call { callee := .builtin .append, args := #[s, x], argTypes := #[59, 9] })
    (base : Nat) (v : Value) (xs l : List UInt8) (hs : a.eval s = v) (hx : a.eval x = .string ⟨l.toArray⟩) (hown : w.ownsRow base 5 1 v xs.length (xs.map byteVal)) (hpos : 0 < xs.length) (h63 : xs.length + l.length ≤ 140737488355328) (hbase : base ≤ w.heap.size)
    (h : ∀ v' w', w'.ownsRow base 5 1 v' (xs ++ l).length ((xs ++ l).map byteVal) → w.grownBy w' v.ownBlock → K (a.put o.dst v') w') : o.wp Try.prog a w K Q := by
  obtain ⟨v', w', h1, h2, h3⟩ := run_app_str w o.type base v xs l hown hpos h63 hbase
  unfold Oper.wp
  simp [execOp, ho, resolve, invoke, builtin, hs, hx, h1, Result.andThen]
  exact h v' w' h2 h3
theorem step_app_str {ops : Array Oper} {o : Oper} {a : Act} {K : Act → World → Prop} {Q : Exit → Act → World → Prop} {E : Prop} (w : World) (hgd : o.guard = none) (s x : Operand) (ho : o.op = .call { callee := .builtin .append, args := #[s, x], argTypes := #[59, 9] })
    (base : Nat) (v : Value) (xs l : List UInt8) (hs : a.eval s = v) (hx : a.eval x = .string ⟨l.toArray⟩) (hown : w.ownsRow base 5 1 v xs.length (xs.map byteVal)) (hpos : 0 < xs.length) (h63 : xs.length + l.length ≤ 140737488355328) (hbase : base ≤ w.heap.size)
    (h : ∀ v' w', w'.ownsRow base 5 1 v' (xs ++ l).length ((xs ++ l).map byteVal) → w.grownBy w' v.ownBlock → K (a.put o.dst v') w') : if Region.wanted o (yielded ops a.tmps) = true then Oper.wp Try.prog o a w K Q else E := by
  have hw : Region.wanted o (yielded ops a.tmps) = true := by simp [Region.wanted, hgd]
  rw [if_pos hw]
  exact wp_app_str w s x ho base v xs l hs hx hown hpos h63 hbase h
/-- 'append(v, x...)', bytes, as a drawn region's walk meets it. -/
theorem step_app_b {ops : Array Oper} {o : Oper} {a : Act} {K : Act → World → Prop} {Q : Exit → Act → World → Prop} {E : Prop} (w : World) (hgd : o.guard = none) (s x : Operand) (ho : o.op = .call { callee := .builtin .append, args := #[s, x], argTypes := #[59, 59] })
    (base : Nat) (v : Value) (xs : List UInt8) (hs : a.eval s = v) (hown : w.ownsRow base 5 1 v xs.length (xs.map byteVal)) (y : Value) (ys : List UInt8) (hx : a.eval x = y) (hr : Bs w y ys) (h63 : xs.length + ys.length ≤ 140737488355328) (hbase : base ≤ w.heap.size)
    (h : ∀ v' w', w'.ownsRow base 5 1 v' (xs ++ ys).length ((xs ++ ys).map byteVal) → w.grownBy w' v.ownBlock → K (a.put o.dst v') w') : if Region.wanted o (yielded ops a.tmps) = true then Oper.wp Try.prog o a w K Q else E := by
  have hw : Region.wanted o (yielded ops a.tmps) = true := by simp [Region.wanted, hgd]
  rw [if_pos hw]
  obtain ⟨i0, hi, hz0, hz1, hz2⟩ := info_parts info_u8
  obtain ⟨ad, cap, rfl, g1, g2, hn, g3, g4⟩ := hr.reads
  have e : (xs ++ ys).map byteVal = xs.map byteVal ++ ys.map byteVal := by simp
  cases ad with
  | none =>
    obtain rfl := hn rfl
    obtain rfl : ys = [] := List.eq_nil_of_length_eq_zero (by rw [List.length_map] at g1; omega)
    have hrun := run_append_owned_none (P := Try.prog) (w := w) base 59 o.type 5 i0 1 Try.underlying59 hi v xs.length (xs.map byteVal) hown
    unfold Oper.wp
    simp [execOp, ho, resolve, invoke, builtin, hs, hx, hrun, Result.andThen]
    exact h v w (by simpa using hown) (World.grownBy.refl _ _)
  | some ad =>
    refine wp_append_own w s x 59 ho base 5 i0 (.int .u8 0) 1 1 Try.underlying59 hi hz0 hz1 hz2 rfl (by omega) v xs.length (xs.map byteVal) hs hown ad (ys.map byteVal).length cap (ys.map byteVal) hx (by simp) ?_ g3 (by unfold maxLen; simp; omega) (by simp; omega) hbase (fun v' w' a b _ => h v' w' (by rw [e]; simpa using a) b)
    intro j u hj
    rcases g4 with g4 | ⟨b, off, hb, hc⟩
    · rw [g4] at hj; simp at hj
    · obtain rfl := Option.some.inj hb
      rw [Addr.add_lit]; exact hc j u hj
end Go.Proofs.Ytnjfioikpajhlaa
/- Slices that came in, opened: truth values, whole numbers. -/
namespace Go.Proofs.Ytnjfioikpajhlaa
open Go.RowKit Go.ChangeShapes Go.WideShapes Go.ChangeAt

section
variable {H : Type} {enc : TypeId × Value → H} {P : Program} {w : World} {base : Nat} {spare : Nat → Bool} {held : Bool}
/-- A slice of elements of one cell: nil, or each cell with its reading. -/
theorem open_cells {t e : TypeId} {fuel : Nat} {v : Value} {x : DataW H × List MemPlace} (ht : P.underlying t = some (.slice e)) (hc : P.cellsOf e = 1) (h : DataW.trod enc P w base spare held fuel t [v] = some x) :
    v = .slice none 0 0 ∨ ∃ (a : Addr) (len cap n : Nat), v = .slice (some a) len cap ∧ len ≤ cap ∧ cap ≤ maxLen ∧ ∀ i, i < len → ∃ u y, w.cell? (a.add i) = some u ∧ DataW.trod enc P w base spare held n e [u] = some y := by
  rcases DataW.trod_slice ht h with ⟨hcs, _⟩ | ⟨a, len, cap, elems, rest, n, _, hcs, _, _, hl, hm, hlen, hel, _⟩
  · left; simpa using hcs
  · right
    refine ⟨a, len, cap, n, by simpa using hcs, hl, hm, fun i hi => ?_⟩
    have h1 := hel i hi
    rw [hc, Nat.mul_one] at h1
    have hy : elems[i]? = some (elems[i]'(by omega)) := List.getElem?_eq_getElem (by omega)
    rw [hy, Option.bind_eq_some_iff] at h1
    obtain ⟨cs, h2, h3⟩ := h1
    obtain ⟨_, hcl, hat⟩ := World.cells?_some h2
    have h4 := hat 0 (by omega)
    match cs, hcl with
    | [u], _ =>
      refine ⟨u, _, ?_, h3⟩
      have e0 : (a.add i).add 0 = a.add i := by simp [Addr.add]
      rw [e0] at h4
      simpa using h4
theorem trod_bool_inv {t : TypeId} (ht : P.underlying t = some .bool) {fuel : Nat} {v : Value} {x : DataW H × List MemPlace} (h : DataW.trod enc P w base spare held fuel t [v] = some x) : ∃ b, v = .bool b := by
  cases fuel with
  | zero => simp [DataW.trod] at h
  | succ n => cases v <;> simp [DataW.trod, ht] at h ⊢
/-- Cells of one kind make a row that reads. -/
theorem reads_of {α : Type} (g : α → Value) (hg : ∀ x, (g x).oneCell' = true) (x0 : α) {a : Addr} {len cap : Nat} (hl : len ≤ cap) (hm : cap ≤ maxLen) (R : α → Prop) (h : ∀ i, i < len → ∃ x, w.cell? (a.add i) = some (g x) ∧ R x) :
    ∃ l : List α, l.length = len ∧ Reads w (.slice (some a) len cap) (l.map g) ∧ ∀ x ∈ l, R x := by
  have each : ∀ i, ∃ x : α, i < len → w.cell? (a.add i) = some (g x) ∧ R x := fun i => by
    by_cases hi : i < len
    · obtain ⟨x, hx⟩ := h i hi; exact ⟨x, fun _ => hx⟩
    · exact ⟨x0, fun h => absurd h hi⟩
  obtain ⟨U, hU⟩ := Classical.axiomOfChoice each
  refine ⟨(List.range len).map U, by simp, ⟨some a, cap, by simp, by simpa using hl, hm, by simp, ?_, ?_⟩, ?_⟩
  · intro u hu
    obtain ⟨x, _, rfl⟩ := List.mem_map.1 hu
    exact hg x
  · by_cases h0 : len = 0
    · left; subst h0; rfl
    · right
      obtain ⟨b, off, spot⟩ := a
      have hc0 := (hU 0 (by omega)).1
      have hs : spot = none := by simpa [Addr.add] using World.cell?_spot hc0
      subst hs
      refine ⟨b, off, rfl, fun j u hj => ?_⟩
      have hj' : j < len := by
        have := (List.getElem?_eq_some_iff.1 hj).1
        simpa using this
      have h := (hU j (by omega)).1
      rw [Addr.add_lit] at h
      rw [h]
      simp [hj'] at hj
      exact congrArg some hj
  · intro x hx
    obtain ⟨i, hi, rfl⟩ := List.mem_map.1 hx
    exact (hU i (List.mem_range.1 hi)).2
end
theorem open_bools {H : Type} {enc : TypeId × Value → H} {w : World} {base : Nat} {spare : Nat → Bool} {held : Bool} {fuel : Nat} {v : Value} {x : DataW H × List MemPlace} (h : DataW.trod enc Try.prog w base spare held fuel 87 [v] = some x) :
    ∃ l : List Bool, Reads w v (l.map Value.bool) := by
  rcases open_cells Try.underlying87 (by kernel_rfl) h with rfl | ⟨a, len, cap, n, rfl, hl, hm, hc⟩
  · exact ⟨[], Reads.nil w⟩
  · obtain ⟨l, _, hr, _⟩ := reads_of (w := w) Value.bool (fun _ => rfl) false hl hm (fun _ => True) (fun i hi => by
      obtain ⟨u, y, h1, h2⟩ := hc i hi
      obtain ⟨b, rfl⟩ := trod_bool_inv Try.underlying4 h2
      exact ⟨b, h1, trivial⟩)
    exact ⟨l, hr⟩
def intVal (n : Int) : Value := .int .i64 n
end Go.Proofs.Ytnjfioikpajhlaa
