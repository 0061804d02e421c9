/- The walk of word.ReadVar: what it computes of bytes that lie in memory. -/
import Derived.Test.YtnbadeaiocandaaProg
import Derived.Test.YtnbadeaiocandaaPlainW
import Derived.WalkKit
import Derived.WalkLawsBesides
import Derived.WalkSpells
namespace Go.Proofs.Ytnbadeaiocandaa
open Go.RowKit

theorem ret3 {a b c a' b' c' : Int} (ha : a = a') (hb : b = b') (hc : c = c') :
    Ending.returned (.tuple #[.int .u64 a, .int .i64 b, .int .i64 c]) = .returned (.tuple #[.int .u64 a', .int .i64 b', .int .i64 c']) := by subst ha hb hc; rfl

set_option maxRecDepth 100000 in
set_option maxHeartbeats 400000 in
theorem readVar_cons (b off cap : Nat) (l : List UInt8) (w : World) (hl : l.length ≤ 1000000) (hne : 0 < l.length)
  (hc : ∀ i (h : i < l.length), w.cell? ⟨b, off + i, none⟩ = some (.int .u8 (l[i].toNat : Int))) :
    Calls Try.prog 12 #[.slice (some ⟨b, off, none⟩) l.length cap] w fun e w' =>
      e = .returned (.tuple #[.int .u64 ((W.rv l 0 0).1 : Int), .int .i64 ((W.rv l 0 0).2.1 : Int), .int .i64 ((W.rv l 0 0).2.2 : Int)]) ∧ w = w' := by
  go_enter Try.func12, Try.ntmps12
  go_wp2
  go_loop [2, 9] (fun n i => ∃ k : Nat, ∃ m : Nat, k ≤ l.length ∧ k ≤ 9 ∧ m < 128 ^ k ∧ W.rv l 0 0 = W.rv (l.drop k) k m ∧ i = .int .i64 k ∧ n = .int .u64 m) (fun _ i => l.length - (intOf i).toNat)
  case atStart => exact ⟨0, 0, by omega, by omega, by simp, by simp, rfl, rfl⟩
  case round =>
    obtain ⟨k, m, hk, hk9, hm0, hr0, rfl, rfl⟩ := hrel
    have hm : Hid (m < 128^k) := hm0
    have hr : Hid (W.rv l 0 0 = W.rv (l.drop k) k m) := hr0
    clear hm0 hr0
    by_cases hlt : k < l.length
    · have hcell := hc k hlt
      have hcons := W.drop_cons l k hlt
      have hr2 : Hid (W.rv l 0 0 = W.rv (l[k] :: l.drop (k + 1)) k m) := by unfold Hid; rw [← hcons]; exact hr.out
      clear hr hcons
      have hb := l[k].toNat_lt
      have hend : Hid (∀ v : Int, (¬ ((k = 9 ∧ 1 < l[k].toNat) ∨ (0 < k ∧ l[k].toNat = 0))) → l[k].toNat < 128 → v = (bits BinOp.or IntKind.u64 (m : Int) (IntKind.u64.wrap (IntKind.u64.wrap (bits BinOp.and IntKind.u8 (l[k].toNat : Int) 127) * 2 ^ (7 * k)))) →
          Ending.returned (.tuple #[.int .u64 v, .int .i64 ((k : Int) + 1), .int .i64 0]) = Ending.returned (.tuple #[.int .u64 ((W.rv l 0 0).1 : Int), .int .i64 ((W.rv l 0 0).2.1 : Int), .int .i64 ((W.rv l 0 0).2.2 : Int)])) := by
        intro v h1 h2 hv
        rw [hv, W.or_shl m l[k].toNat k hb hm.out hk9 (by omega), hr2.out, W.rv_end _ _ _ _ h1 h2]
        rfl
      have hbad : Hid (((k = 9 ∧ 1 < l[k].toNat) ∨ (0 < k ∧ l[k].toNat = 0)) →
          Ending.returned (.tuple #[.int .u64 0, .int .i64 0, .int .i64 4]) = Ending.returned (.tuple #[.int .u64 ((W.rv l 0 0).1 : Int), .int .i64 ((W.rv l 0 0).2.1 : Int), .int .i64 ((W.rv l 0 0).2.2 : Int)])) := by
        intro h
        rw [hr2.out, W.rv_bad _ _ _ _ h]; rfl
      have hmore : Hid ((¬ ((k = 9 ∧ 1 < l[k].toNat) ∨ (0 < k ∧ l[k].toNat = 0))) → ¬ l[k].toNat < 128 →
          k + 1 ≤ 9 ∧ m + l[k].toNat % 128 * 128 ^ k < 128 ^ (k + 1) ∧ W.rv l 0 0 = W.rv (l.drop (k + 1)) (k + 1) (m + l[k].toNat % 128 * 128 ^ k)
          ∧ Value.int .u64 (bits BinOp.or IntKind.u64 (m : Int) (IntKind.u64.wrap (IntKind.u64.wrap (bits BinOp.and IntKind.u8 (l[k].toNat : Int) 127) * 2 ^ (7 * k)))) = .int .u64 ((m + l[k].toNat % 128 * 128 ^ k : Nat) : Int)) := by
        intro h1 h2
        refine ⟨by omega, (W.step_lt m k l[k].toNat hm.out hk9 hb (by omega)).2, by rw [hr2.out, W.rv_more _ _ _ _ h1 h2], ?_⟩
        rw [W.or_shl m l[k].toNat k hb hm.out hk9 (by omega)]
      by_cases h9 : k = 9
      · subst h9
        by_cases hx : (1 : Int) < (l[9].toNat : Int)
        · go_wp2
          go_ret3
          exact ⟨hbad.out (by first | exact .inl ⟨rfl, by omega⟩ | (simp; omega)), rfl⟩
        · by_cases hx0 : (l[9].toNat : Int) = 0
          · have hxb : ((l[9].toNat : Int) == 0) = true := by simpa using hx0
            go_wp2
            go_ret3
            exact ⟨hbad.out (.inr ⟨by omega, by omega⟩), rfl⟩
          · have hxb : ((l[9].toNat : Int) == 0) = false := by simpa using hx0
            have hxl : (l[9].toNat : Int) < 128 := by omega
            go_wp2
            go_ret3
            exact ⟨hend.out _ (by rintro (⟨_, h⟩ | ⟨_, h⟩) <;> omega) (by omega) (by simp), rfl⟩
      · by_cases h0 : k = 0
        · subst h0
          have hcell : w.cell? ⟨b, off, none⟩ = some (.int .u8 (l[0].toNat : Int)) := by simpa using hcell
          by_cases hx : (l[0].toNat : Int) < 128
          · go_wp2
            go_ret3
            exact ⟨hend.out _ (by rintro (⟨_, h⟩ | ⟨_, h⟩) <;> omega) (by omega) (by simp), rfl⟩
          · go_wp2
            go_round
            case rel => (have H := hmore.out (by rintro (⟨_, h⟩ | ⟨_, h⟩) <;> omega) (by omega); exact ⟨1, _, by omega, H.1, H.2.1, H.2.2.1, rfl, by simpa using H.2.2.2⟩)
            case measure => simp [intOf]; omega
        · have hk0 : 0 < k := by omega
          by_cases hx0 : (l[k].toNat : Int) = 0
          · have hxb : ((l[k].toNat : Int) == 0) = true := by simpa using hx0
            go_wp2
            go_ret3
            exact ⟨hbad.out (.inr ⟨by omega, by omega⟩), rfl⟩
          · have hxb : ((l[k].toNat : Int) == 0) = false := by simpa using hx0
            by_cases hx : (l[k].toNat : Int) < 128
            · go_wp2
              go_ret3
              exact ⟨hend.out _ (by rintro (⟨_, h⟩ | ⟨_, h⟩) <;> omega) (by omega) rfl, rfl⟩
            · go_wp2
              go_round
              case rel => (have H := hmore.out (by rintro (⟨_, h⟩ | ⟨_, h⟩) <;> omega) (by omega); exact ⟨k + 1, _, by omega, H.1, H.2.1, H.2.2.1, by go_num, H.2.2.2⟩)
              case measure => simp [intOf]; omega
    · obtain rfl : k = l.length := by omega
      have hr3 : Hid (W.rv l 0 0 = (0, 0, 5)) := by unfold Hid; rw [hr.out]; simp [W.rv]
      go_wp2
      go_ret3
      exact ⟨by rw [hr3.out]; rfl, rfl⟩

set_option maxRecDepth 100000 in
theorem readVar_nil (a : Option Addr) (cap : Nat) (w : World) :
    Calls Try.prog 12 #[.slice a 0 cap] w fun e w' =>
      e = .returned (.tuple #[.int .u64 ((W.rv [] 0 0).1 : Int), .int .i64 ((W.rv [] 0 0).2.1 : Int), .int .i64 ((W.rv [] 0 0).2.2 : Int)]) ∧ w = w' := by
  go_enter Try.func12, Try.ntmps12
  go_wp2
  refine wp_loop_rounds 1 ?_
  rw [rounds_succ]
  go_wp2
  go_ret3
  exact ⟨rfl, rfl⟩
end Go.Proofs.Ytnbadeaiocandaa
