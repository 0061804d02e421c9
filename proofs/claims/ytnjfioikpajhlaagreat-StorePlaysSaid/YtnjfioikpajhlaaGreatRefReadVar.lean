import Derived.Test.YtnjfioikpajhlaaGreatProg
import Derived.Test.YtnjfioikpajhlaaGreatMPlain
import Derived.WalkKit
import Derived.WalkLawsBesides
import Derived.WalkSpells
set_option maxRecDepth 100000
set_option maxHeartbeats 64000000
/- The walk of jetwayref01.ReadVar. -/
namespace Go.Proofs.YtnjfioikpajhlaaGreat
open Go.RowKit
theorem W.rv_ref (m x k : Nat) (hx : x < 256) (hm : m < 128 ^ k) (hk : k <= 9) (h9 : k = 9 -> x <= 1) :
 IntKind.u64.wrap ((m : Int) + IntKind.u64.wrap (((x : Int) % 128) * ((128 ^ k : Nat) : Int))) = ((m + x % 128 * 128 ^ k : Nat) : Int) := by
 have hs := W.step_lt m k x hm hk hx h9
 have e : ((x : Int) % 128) * ((128 ^ k : Nat) : Int) = ((x % 128 * 128 ^ k : Nat) : Int) := by simp
 rw [e, IntKind.wrap_u64, IntKind.wrap_u64]
 have h : x % 128 * 128 ^ k < 18446744073709551616 := by omega
 generalize x % 128 * 128 ^ k = y at *
 omega
theorem refReadVar (s : ByteArray) (w : World) (hl : s.size <= 9223372036854775807) :
 Calls Tryz.prog 69 #[.string s] w fun e w' =>
  e = .returned (.tuple #[.int .u64 ((W.rv s.data.toList 0 0).1 : Int), .int .i64 ((W.rv s.data.toList 0 0).2.1 : Int), .int .i64 ((W.rv s.data.toList 0 0).2.2 : Int)]) /\ w = w' := by
 have hsz : s.data.toList.length = s.size := by simp
 go_enter Tryz.func69, Tryz.ntmps69
 go_wp2
 go_loop [5, 6, 7] (fun n u i => ∃ k : Nat, ∃ m : Nat, k <= s.size /\ k <= 9 /\ m < 128 ^ k /\ W.rv s.data.toList 0 0 = W.rv (s.data.toList.drop k) k m /\ i = .int .i64 k /\ n = .int .u64 m /\ u = .int .u64 ((128 ^ k : Nat) : Int)) (fun _ _ i => s.size - (intOf i).toNat)
 case atStart => exact ⟨0, 0, by omega, by omega, by simp, by simp, rfl, rfl, rfl⟩
 case round =>
  obtain ⟨k, m, hk, hk9, hm0, hr0, rfl, rfl, rfl⟩ := hrel
  have hm : Hid (m < 128^k) := hm0
  have hr : Hid (W.rv s.data.toList 0 0 = W.rv (s.data.toList.drop k) k m) := hr0
  clear hm0 hr0 hsz
  by_cases hlt : k < s.size
  ·have hcons : s.data.toList.drop k = s[k] :: s.data.toList.drop (k + 1) := by
    rw [W.drop_cons s.data.toList k (by simpa using hlt)]; rfl
   have hr2 : Hid (W.rv s.data.toList 0 0 = W.rv (s[k] :: s.data.toList.drop (k + 1)) k m) := by unfold Hid; rw [<- hcons]; exact hr.out
   clear hr hcons
   have hb := s[k].toNat_lt
   have hend : Hid (∀ v : Int, (¬ ((k = 9 /\ 1 < s[k].toNat) ∨ (0 < k /\ s[k].toNat = 0))) -> s[k].toNat < 128 -> v = IntKind.u64.wrap ((m : Int) + IntKind.u64.wrap (((s[k].toNat : Int) % 128) * ((128 ^ k : Nat) : Int))) ->
    Ending.returned (.tuple #[.int .u64 v, .int .i64 ((k : Int) + 1), .int .i64 0]) = Ending.returned (.tuple #[.int .u64 ((W.rv s.data.toList 0 0).1 : Int), .int .i64 ((W.rv s.data.toList 0 0).2.1 : Int), .int .i64 ((W.rv s.data.toList 0 0).2.2 : Int)])) := by
    intro v h1 h2 hv
    rw [hv, W.rv_ref m s[k].toNat k hb hm.out hk9 (by omega), hr2.out, W.rv_end _ _ _ _ h1 h2]
    rfl
   have hbad : Hid (((k = 9 /\ 1 < s[k].toNat) ∨ (0 < k /\ s[k].toNat = 0)) ->
    Ending.returned (.tuple #[.int .u64 0, .int .i64 0, .int .i64 4]) = Ending.returned (.tuple #[.int .u64 ((W.rv s.data.toList 0 0).1 : Int), .int .i64 ((W.rv s.data.toList 0 0).2.1 : Int), .int .i64 ((W.rv s.data.toList 0 0).2.2 : Int)])) := by
    intro h
    rw [hr2.out, W.rv_bad _ _ _ _ h]; rfl
   have hmore : Hid ((¬ ((k = 9 /\ 1 < s[k].toNat) ∨ (0 < k /\ s[k].toNat = 0))) -> ¬ s[k].toNat < 128 ->
    k + 1 <= 9 /\ m + s[k].toNat % 128 * 128 ^ k < 128 ^ (k + 1) /\ W.rv s.data.toList 0 0 = W.rv (s.data.toList.drop (k + 1)) (k + 1) (m + s[k].toNat % 128 * 128 ^ k)
    /\ Value.int .u64 (IntKind.u64.wrap ((m : Int) + IntKind.u64.wrap (((s[k].toNat : Int) % 128) * ((128 ^ k : Nat) : Int)))) = .int .u64 ((m + s[k].toNat % 128 * 128 ^ k : Nat) : Int)
    /\ Value.int .u64 (IntKind.u64.wrap (((128 ^ k : Nat) : Int) * 128)) = .int .u64 ((128 ^ (k + 1) : Nat) : Int)) := by
    intro h1 h2
    refine ⟨by omega, (W.step_lt m k s[k].toNat hm.out hk9 hb (by omega)).2, by rw [hr2.out, W.rv_more _ _ _ _ h1 h2], ?_, ?_⟩
    ·rw [W.rv_ref m s[k].toNat k hb hm.out hk9 (by omega)]
    ·have := W.pow_lt (k + 1) (by omega)
     rw [IntKind.wrap_u64, Nat.pow_succ] at *
     generalize 128 ^ k = y at *
     congr 1; omega
   by_cases h9 : k = 9
   ·subst h9
    by_cases hx : (1 : Int) < (s[9].toNat : Int)
    ·go_wp2
     go_ret3
     exact ⟨hbad.out (by first | exact .inl ⟨rfl, by omega⟩ | (simp; omega)), rfl⟩
    ·by_cases hx0 : (s[9].toNat : Int) = 0
     ·have hxb : ((s[9].toNat : Int) == 0) = true := by simpa using hx0
      go_wp2
      go_ret3
      exact ⟨hbad.out (.inr ⟨by omega, by omega⟩), rfl⟩
     ·have hxb : ((s[9].toNat : Int) == 0) = false := by simpa using hx0
      have hxl : (s[9].toNat : Int) < 128 := by omega
      go_wp2
      go_ret3
      exact ⟨hend.out _ (by rintro (⟨_, h⟩ | ⟨_, h⟩) <;> omega) (by omega) (by simp only [IntKind.wrap_u64]; omega), rfl⟩
   ·by_cases h0 : k = 0
    ·subst h0
     by_cases hx : (s[0].toNat : Int) < 128
     ·go_wp2
      go_ret3
      exact ⟨hend.out _ (by rintro (⟨_, h⟩ | ⟨_, h⟩) <;> omega) (by omega) (by simp only [IntKind.wrap_u64]; omega), rfl⟩
     ·go_wp2
      go_round
      case rel => (have H := hmore.out (by rintro (⟨_, h⟩ | ⟨_, h⟩) <;> omega) (by omega); exact ⟨1, _, by omega, H.1, H.2.1, H.2.2.1, rfl, by (have := H.2.2.2.1; simp only [IntKind.wrap_u64] at this ⊢; simp at this ⊢; omega), by simp⟩)
      case measure => simp [intOf]; omega
    ·have hk0 : 0 < k := by omega
     by_cases hx0 : (s[k].toNat : Int) = 0
     ·have hxb : ((s[k].toNat : Int) == 0) = true := by simpa using hx0
      go_wp2
      go_ret3
      exact ⟨hbad.out (.inr ⟨by omega, by omega⟩), rfl⟩
     ·have hxb : ((s[k].toNat : Int) == 0) = false := by simpa using hx0
      by_cases hx : (s[k].toNat : Int) < 128
      ·go_wp2
       go_ret3
       exact ⟨hend.out _ (by rintro (⟨_, h⟩ | ⟨_, h⟩) <;> omega) (by omega) rfl, rfl⟩
      ·go_wp2
       go_round
       case rel => (have H := hmore.out (by rintro (⟨_, h⟩ | ⟨_, h⟩) <;> omega) (by omega); exact ⟨k + 1, _, by omega, H.1, H.2.1, H.2.2.1, by go_num, H.2.2.2.1, H.2.2.2.2⟩)
       case measure => simp [intOf]; omega
  ·obtain rfl : k = s.size := by omega
   have hr3 : Hid (W.rv s.data.toList 0 0 = (0, 0, 5)) := by unfold Hid; rw [hr.out, List.drop_eq_nil_of_le (by simp)]; rfl
   go_wp2
   go_ret3
   exact ⟨by rw [hr3.out]; rfl, rfl⟩
end Go.Proofs.YtnjfioikpajhlaaGreat
