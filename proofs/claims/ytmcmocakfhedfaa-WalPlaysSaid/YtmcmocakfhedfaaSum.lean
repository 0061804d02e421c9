/- The walk of word.Sum: a check sum over parts. -/
import Derived.Test.YtmcmocakfhedfaaProg
import Derived.Test.YtmcmocakfhedfaaPlainS
import Derived.Test.YtmcmocakfhedfaaBase
import Derived.Test.YtmcmocakfhedfaaB8
namespace Go.Proofs.Ytmcmocakfhedfaa
open Go.RowKit

/-- The slice of slices v reads as the byte lists ls. -/
def Rows2 (w : World) (v : Value) (ls : List (List UInt8)) : Prop :=
  ∃ vs, Reads w v vs ∧ vs.length = ls.length ∧ ∀ i (h : i < ls.length), ∃ u, vs[i]? = some u ∧ Bs w u ls[i]
theorem Rows2.ext {w w' : World} {v : Value} {ls : List (List UInt8)} (h : Rows2 w v ls) (he : Ext w w') : Rows2 w' v ls := by
  obtain ⟨vs, h1, h2, h3⟩ := h
  exact ⟨vs, h1.ext he, h2, fun i hi => let ⟨u, a, b⟩ := h3 i hi; ⟨u, a, b.ext he⟩⟩
theorem Rows2.open {w : World} {v : Value} {ls : List (List UInt8)} (h : Rows2 w v ls) : ls.length ≤ 9223372036854775807 ∧
    ((∃ a cap, v = .slice a 0 cap ∧ ls = []) ∨
    (∃ b off cap, v = .slice (some ⟨b, off, none⟩) ls.length cap ∧ 0 < ls.length ∧ ∀ i (h : i < ls.length), ∃ u, Bs w u ls[i] ∧ w.cell? ⟨b, off + i, none⟩ = some u)) := by
  obtain ⟨vs, ⟨a, cap, hv, h1, h2, hn, h3, h4⟩, hl, hr⟩ := h
  unfold maxLen at h2
  rw [hl] at hv h1
  refine ⟨by omega, ?_⟩
  by_cases h0 : ls = []
  · subst h0; exact .inl ⟨a, cap, hv, rfl⟩
  · have hp : 0 < ls.length := List.length_pos_iff.2 h0
    rcases h4 with h4 | ⟨b, off, rfl, hc⟩
    · subst h4; simp at hl; omega
    · refine .inr ⟨b, off, cap, hv, hp, fun i hi => ?_⟩
      obtain ⟨u, hu, hb⟩ := hr i hi
      exact ⟨u, hb, hc i u hu⟩
theorem Rows2.one {w : World} {v u : Value} {l : List UInt8} (hv : Reads w v [u]) (hu : Bs w u l) : Rows2 w v [l] :=
  ⟨[u], hv, rfl, fun i hi => by
    match i, hi with
    | 0, _ => exact ⟨u, rfl, hu⟩⟩

namespace S
/-- The sum's state behind some parts. -/
def runs (c : BitVec 32) (ls : List (List UInt8)) : BitVec 32 := run c ls.flatten
theorem runs_take (c : BitVec 32) (ls : List (List UInt8)) (k : Nat) (h : k < ls.length) : runs c (ls.take (k + 1)) = run (runs c (ls.take k)) ls[k] := by
  unfold runs
  rw [List.take_succ_eq_append_getElem h, List.flatten_append, run_append]
  simp
theorem run_take (c : BitVec 32) (l : List UInt8) (k : Nat) (h : k < l.length) : run c (l.take (k + 1)) = by1 (run c (l.take k)) l[k] := by
  rw [List.take_succ_eq_append_getElem h, run_snoc]
theorem by_walk (c : BitVec 32) (x : UInt8) : bits BinOp.xor IntKind.u32 (c.toNat : Int) (x.toNat : Int) = ((c ^^^ BitVec.ofNat 32 x.toNat).toNat : Int) := by
  have hx := x.toNat_lt
  have h := xor32 c (BitVec.ofNat 32 x.toNat)
  rw [BitVec.toNat_ofNat, Nat.mod_eq_of_lt (by omega)] at h
  exact h
theorem by_walk2 (c : BitVec 32) (x : UInt8) : bits BinOp.xor IntKind.u32 (c.toNat : Int) ((x.toNat : Int) % 4294967296) = ((c ^^^ BitVec.ofNat 32 x.toNat).toNat : Int) := by
  have hx := x.toNat_lt
  rw [Int.emod_eq_of_lt (by omega) (by omega)]
  exact by_walk c x
theorem st_walk2 (c : BitVec 32) : bits BinOp.xor IntKind.u32 ((c.toNat : Int) / 2) (bits BinOp.and IntKind.u32 3988292384 (-(bits BinOp.and IntKind.u32 (c.toNat : Int) 1) % 4294967296)) = ((st c).toNat : Int) := by
  rw [← IntKind.wrap_u32']; exact st_walk c
theorem not_walk (c : BitVec 32) : bits BinOp.xor IntKind.u32 IntKind.u32.max (c.toNat : Int) = ((~~~ c).toNat : Int) := by
  have h := xor32 (~~~ 0#32) c
  have e : (((~~~ 0#32).toNat : Nat) : Int) = IntKind.u32.max := by decide
  rw [e] at h
  rw [h]
  have : ~~~ 0#32 ^^^ c = ~~~ c := by
    rw [show ~~~ 0#32 = BitVec.allOnes 32 from rfl, BitVec.allOnes_xor]
  rw [this]
end S

set_option maxRecDepth 100000 in
set_option maxHeartbeats 1600000 in
theorem sum_cons (b off cap : Nat) (ls : List (List UInt8)) (w : World) (hl : ls.length ≤ 9223372036854775807) (hp : 0 < ls.length)
    (hr : Hid (∀ i (h : i < ls.length), ∃ u, Bs w u ls[i] ∧ w.cell? ⟨b, off + i, none⟩ = some u)) :
    Calls Try.prog 82 #[.slice (some ⟨b, off, none⟩) ls.length cap] w fun e w' => e = .returned (.int .u32 (S.sum ls.flatten : Int)) ∧ w = w' := by
  go_enter Try.func82, Try.ntmps82
  go_wp2
  go_loop [3, 10] (fun c i => ∃ k : Nat, ∃ d : BitVec 32, k ≤ ls.length ∧ Hid (d = S.runs (~~~ 0#32) (ls.take k)) ∧ i = .int .i64 k ∧ c = .int .u32 (d.toNat : Int)) (fun _ i => ls.length - (intOf i).toNat)
  case atStart => exact ⟨0, ~~~ 0#32, by omega, rfl, rfl, by rw [show (~~~ 0#32).toNat = 4294967295 from by decide]; rfl⟩
  case round =>
    obtain ⟨k, d, hk, hd, rfl, rfl⟩ := hrel
    by_cases hlt : k < ls.length
    · obtain ⟨u, hu, hcell⟩ := hr.out k hlt
      have hll := hu.length_le
      rcases hu.open with ⟨a, cp, rfl, he, _, _⟩ | ⟨b2, off2, cp, rfl, hp2, _, _, _, hc2⟩
      · have hd2 : Hid (d = S.runs (~~~ 0#32) (ls.take (k + 1))) := by
          unfold Hid; rw [S.runs_take _ _ _ hlt, he, ← hd.out]; rfl
        clear he
        go_wp2
        refine wp_loop_rounds 1 ?_
        rw [rounds_succ]
        go_wp2
        go_round
        case rel => exact ⟨k + 1, d, by omega, hd2, by go_num, rfl⟩
        case measure => simp [intOf]; omega
      · have hc2' := Lib.hid hc2
        clear hc2
        go_wp2
        go_loop [3, 16] (fun c i => ∃ j : Nat, ∃ e : BitVec 32, j ≤ ls[k].length ∧ Hid (e = S.run d (ls[k].take j)) ∧ i = .int .i64 j ∧ c = .int .u32 (e.toNat : Int)) (fun _ i => ls[k].length - (intOf i).toNat)
        case atStart => exact ⟨0, d, by omega, rfl, rfl, rfl⟩
        case round =>
          obtain ⟨j, e, hj, he, rfl, rfl⟩ := hrel
          by_cases hjl : j < ls[k].length
          · have hcell2 := hc2'.out j hjl
            go_wp2
            go_loop [3, 24] (fun c i => ∃ q : Nat, ∃ f : BitVec 32, q ≤ 8 ∧ Hid (f = S.stN q (e ^^^ BitVec.ofNat 32 (ls[k][j]).toNat)) ∧ i = .int .i64 q ∧ c = .int .u32 (f.toNat : Int)) (fun _ i => 8 - (intOf i).toNat)
            case atStart => exact ⟨0, _, by omega, rfl, rfl, congrArg (Value.int .u32) (S.by_walk2 e ls[k][j])⟩
            case round =>
              obtain ⟨q, f, hq, hf, rfl, rfl⟩ := hrel
              by_cases hq8 : q < 8
              · have hf2 : Hid (S.st f = S.stN (q + 1) (e ^^^ BitVec.ofNat 32 (ls[k][j]).toNat)) := by
                  unfold Hid; rw [hf.out]; rfl
                go_wp2
                go_round
                case rel => exact ⟨q + 1, S.st f, by omega, hf2, by go_num, congrArg (Value.int .u32) (S.st_walk2 f)⟩
                case measure => simp [intOf]; omega
              · have hf2 : Hid (f = S.run d (ls[k].take (j + 1))) := by
                  unfold Hid; rw [S.run_take _ _ _ hjl, ← he.out, hf.out, show q = 8 by omega]; rfl
                go_wp2
                go_round
                case rel => exact ⟨j + 1, f, by omega, hf2, by go_num, rfl⟩
                case measure => simp [intOf]; omega
          · have hd2 : Hid (e = S.runs (~~~ 0#32) (ls.take (k + 1))) := by
              unfold Hid; rw [S.runs_take _ _ _ hlt, ← hd.out, he.out, List.take_of_length_le (by omega)]
            go_wp2
            go_round
            case rel => exact ⟨k + 1, e, by omega, hd2, by go_num, rfl⟩
            case measure => simp [intOf]; omega
    · have hd2 : Hid ((S.sum ls.flatten : Int) = ((~~~ d).toNat : Int)) := by
        unfold Hid; rw [hd.out, List.take_of_length_le (by omega)]; rfl
      go_wp2
      go_ret
      exact ⟨by rw [S.not_walk, hd2.out]; rfl, rfl⟩

set_option maxRecDepth 100000 in
theorem sum_nil (a : Option Addr) (cap : Nat) (w : World) :
    Calls Try.prog 82 #[.slice a 0 cap] w fun e w' => e = .returned (.int .u32 (S.sum [] : Int)) ∧ w = w' := by
  have hd2 : Hid ((S.sum [] : Int) = 0) := by unfold Hid; decide
  have hm : bits BinOp.xor IntKind.u32 IntKind.u32.max 4294967295 = 0 := by decide
  go_enter Try.func82, Try.ntmps82
  go_wp2
  refine wp_loop_rounds 1 ?_
  rw [rounds_succ]
  go_wp2
  go_ret
  exact ⟨by rw [hd2.out]; rfl, rfl⟩

theorem sum_any (v : Value) (ls : List (List UInt8)) (w : World) (h : Rows2 w v ls) :
    Calls Try.prog 82 #[v] w fun e w' => e = .returned (.int .u32 (S.sum ls.flatten : Int)) ∧ w = w' := by
  obtain ⟨hl, h⟩ := h.open
  rcases h with ⟨a, cap, rfl, rfl⟩ | ⟨b, off, cap, rfl, hp, hr⟩
  · exact sum_nil a cap w
  · exact sum_cons b off cap ls w hl hp hr
end Go.Proofs.Ytmcmocakfhedfaa
