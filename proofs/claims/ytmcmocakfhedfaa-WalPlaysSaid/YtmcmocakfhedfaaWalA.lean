/- The small functions of the log: Need, Area, sealed, head; bytes.Equal, bytes.Clone. -/
import Derived.Test.YtmcmocakfhedfaaProg
import Derived.Test.YtmcmocakfhedfaaPlainW
import Derived.Test.YtmcmocakfhedfaaPlainS
import Derived.Test.YtmcmocakfhedfaaBase
import Derived.Test.YtmcmocakfhedfaaB8
import Derived.Test.YtmcmocakfhedfaaPut
import Derived.Test.YtmcmocakfhedfaaGet
import Derived.Test.YtmcmocakfhedfaaSum
import Derived.Lib.SliceRun
namespace Go.Proofs.Ytmcmocakfhedfaa
open Go.RowKit

namespace W5
def needI (n : Int) : Int := if n < 1 then 1 else (n - 1) / 491 + 1
def need (n : Nat) : Nat := if n < 1 then 1 else (n - 1) / 491 + 1
def areaI (n : Int) : Int := if n < 2 then 0 else (n - 2) / 2
def sealed (b : List UInt8) : List UInt8 := (b ++ List.replicate (508 - b.length) 0) ++ W.be 4 (S.sum (b ++ List.replicate (508 - b.length) 0))
def head (gen : Nat) : List UInt8 := sealed (1 :: W.be 4 gen)
def pieceB (gen record i : Nat) (b : List UInt8) : List UInt8 :=
  (2 :: W.be 8 (gen * 4294967296 + record % 4294967296)) ++ W.be 8 (i % 65536 * 281474976710656 + need b.length % 65536 * 4294967296 + b.length % 4294967296) ++ (b.drop (i * 491)).take 491
def piece (gen record i : Nat) (b : List UInt8) : List UInt8 := sealed (pieceB gen record i b)
theorem need_nat (n : Nat) : needI (n : Int) = (need n : Int) := by unfold needI need; split <;> split <;> omega
theorem need_pos (n : Nat) : 1 ≤ need n := by unfold need; split <;> omega
theorem sealed_len (b : List UInt8) (h : b.length ≤ 508) : (sealed b).length = 512 := by
  unfold sealed
  rw [List.length_append, W.be_length, List.length_append, List.length_replicate]; omega
theorem head_len (gen : Nat) : (head gen).length = 512 := sealed_len _ (by rw [List.length_cons, W.be_length]; omega)
theorem pieceB_len (gen record i : Nat) (b : List UInt8) : (pieceB gen record i b).length ≤ 508 := by
  unfold pieceB
  simp only [List.length_append, List.length_cons, W.be_length, List.length_take]; omega
theorem piece_len (gen record i : Nat) (b : List UInt8) : (piece gen record i b).length = 512 := sealed_len _ (pieceB_len _ _ _ _)
end W5

theorem ownsRow_base5 {w : World} {base base' : Nat} {e : TypeId} {size : Nat} {v : Value} {n : Nat} {xs : List Value} (h : w.ownsRow base e size v n xs) (hb : base' ≤ base) : w.ownsRow base' e size v n xs := by
  obtain ⟨h1, h2⟩ := h
  refine ⟨h1, ?_⟩
  rcases h2 with h2 | ⟨g, cap, cur, rfl, hg, r⟩
  · exact Or.inl h2
  · exact Or.inr ⟨g, cap, cur, rfl, by omega, r⟩
/-- Bytes in new memory. -/
def MadeB (w w' : World) (l : List UInt8) (e : Ending) : Prop := ∃ v', e = .returned v' ∧ w'.ownsRow w.heap.size 5 1 v' l.length (l.map byteVal) ∧ Ext w w'

set_option maxRecDepth 100000 in
theorem need_any (n : Int) (w : World) (h1 : -9223372036854775808 ≤ n) (h2 : n ≤ 9223372036854775807) :
    Calls Try.prog 11 #[.int .i64 n] w fun e w' => e = .returned (.int .i64 (W5.needI n)) ∧ w = w' := by
  by_cases h : n < 1
  · have e1 : W5.needI n = 1 := if_pos h
    rw [e1]
    clear e1
    go_enter Try.func11, Try.ntmps11
    go_wp2
    go_ret
    exact ⟨rfl, rfl⟩
  · have e1 : W5.needI n = (n - 1) / 491 + 1 := if_neg h
    have e2 : (n - 1).tdiv 491 = (n - 1) / 491 := Int.tdiv_eq_ediv_of_nonneg (by omega)
    rw [e1]
    clear e1
    generalize hq : (n - 1) / 491 = q at *
    have h3 : 0 ≤ q ∧ q ≤ 9223372036854775806 := by omega
    go_enter Try.func11, Try.ntmps11
    go_wp2
    go_ret
    exact ⟨rfl, rfl⟩
set_option maxRecDepth 100000 in
theorem area_any (n : Int) (w : World) (h1 : -9223372036854775808 ≤ n) (h2 : n ≤ 9223372036854775807) :
    Calls Try.prog 13 #[.int .i64 n] w fun e w' => e = .returned (.int .i64 (W5.areaI n)) ∧ w = w' := by
  by_cases h : n < 2
  · have e1 : W5.areaI n = 0 := if_pos h
    rw [e1]
    clear e1
    go_enter Try.func13, Try.ntmps13
    go_wp2
    go_ret
    exact ⟨rfl, rfl⟩
  · have e1 : W5.areaI n = (n - 2) / 2 := if_neg h
    have e2 : (n - 2).tdiv 2 = (n - 2) / 2 := Int.tdiv_eq_ediv_of_nonneg (by omega)
    rw [e1]
    clear e1
    go_enter Try.func13, Try.ntmps13
    go_wp2
    go_ret
    exact ⟨rfl, rfl⟩
set_option maxRecDepth 100000 in
theorem equal_any (v1 v2 : Value) (l1 l2 : List UInt8) (w : World) (h1 : Bs w v1 l1) (h2 : Bs w v2 l2) :
    Calls Try.prog 68 #[v1, v2] w fun e w' => e = .returned (.bool (decide (l1 = l2))) ∧ w = w' := by
  have c1 := h1.toString (P := Try.prog) 31 9 5 Try.underlying31 Try.underlying5 Try.underlying9
  have c2 := h2.toString (P := Try.prog) 31 9 5 Try.underlying31 Try.underlying5 Try.underlying9
  obtain ⟨a1, k1, rfl⟩ := h1.shape
  obtain ⟨a2, k2, rfl⟩ := h2.shape
  clear h1 h2
  by_cases h : l1 = l2
  · subst h
    rw [decide_eq_true rfl]
    go_enter Try.func68, Try.ntmps68
    go_wp2
    go_ret
    exact ⟨rfl, rfl⟩
  · rw [decide_eq_false h]
    have hb : (l1 == l2) = false := by rw [beq_eq_false_iff_ne]; exact h
    go_enter Try.func68, Try.ntmps68
    go_wp2
    go_ret
    exact ⟨rfl, rfl⟩
set_option maxRecDepth 100000 in
set_option maxHeartbeats 800000 in
theorem clone_any (v : Value) (l : List UInt8) (w : World) (h : Bs w v l) (hl : l.length ≤ 140737488355328) :
    Calls Try.prog 43 #[v] w fun e w' => MadeB w w' l e := by
  obtain ⟨a, k, rfl⟩ := h.shape
  have H := Lib.hid h
  unfold MadeB
  cases a with
  | none =>
    have hk : l = [] := by
      obtain ⟨a', cap', hv, _, _, hn, _, h4⟩ := h
      obtain ⟨rfl, _, rfl⟩ := Value.slice.inj hv
      rcases h4 with h4 | ⟨b, off, hb, _⟩
      · simpa using h4
      · cases hb
    subst hk
    clear h
    have hq := fun w => Lib.run_eql_slice_nil (P := Try.prog) w 31 5 none 0 k 0 0 Try.underlying31
    go_enter Try.func43, Try.ntmps43
    go_wp2
    go_ret
    exact ⟨_, rfl, World.ownsRow_nil _ _ _ _, Ext.refl w⟩
  | some ad =>
    clear h
    have hq := fun w => Lib.run_eql_slice_nil (P := Try.prog) w 31 5 (some ad) l.length k 0 0 Try.underlying31
    go_enter Try.func43, Try.ntmps43
    go_wp2_with (first
      | (at_builtin; refine wpl_append_b _ rfl _ _ rfl w.heap.size (.slice (some ⟨w.heap.size, 0, none⟩) 0 0) [] (by rfl) (own_empty w w.heap.size 5 (Nat.le_refl _)) _ _ (by rfl) (H.out.ext (Ext.of_alloc w _)) l rfl hl (by simp) ?_; intro v' w2 hown hgrow)
      | fail)
    have hx : Ext w w2 := (Ext.of_alloc w _).grown hgrow (by intro k hk; simp [Value.ownBlock] at hk; omega)
    go_ret
    exact ⟨_, rfl, hown, hx⟩
theorem sum_one5 (v : Value) (l : List UInt8) (w : World) (h : Bs w v l) (c : v.oneCell' = true) :
    Calls Try.prog 82 #[.slice (some ⟨w.heap.size, 0, none⟩) 1 1] (w.alloc (.cells #[v] 31)) fun e w' => e = .returned (.int .u32 (S.sum l : Int)) ∧ w.alloc (.cells #[v] 31) = w' := by
  have h2 := sum_any (.slice (some ⟨w.heap.size, 0, none⟩) 1 1) [l] (w.alloc (.cells #[v] 31)) (Rows2.one (Reads.one w v 31 c) (h.ext (Ext.of_alloc _ _)))
  simpa using h2
theorem sum_lt (l : List UInt8) : S.sum l < 4294967296 := by unfold S.sum; exact BitVec.isLt _
set_option maxRecDepth 100000 in
set_option maxHeartbeats 1600000 in
theorem sealed_any (v : Value) (l : List UInt8) (w : World) (h : Bs w v l) (hl : l.length ≤ 508) :
    Calls Try.prog 70 #[v] w fun e w' => MadeB w w' (W5.sealed l) e := by
  obtain ⟨i0, hi0, hz0, hz1, hz2⟩ := info_parts info_u8
  have H := Lib.hid h
  clear h
  unfold MadeB W5.sealed
  go_enter Try.func70, Try.ntmps70
  go_wp2_with (first
    | (at_make; refine wpl_make _ rfl _ _ 31 rfl w.heap.size 5 i0 (.int .u8 0) Try.underlying31 hi0 hz0 hz1 rfl .i64 .i64 508 508 508 508 rfl rfl rfl rfl (by omega) (by omega) (by unfold maxLen; omega) (Nat.le_refl _) ?_; intro w1 hown1 hx1 hg1)
    | ((with_reducible show wpList _ _ _ (⟨_, Op.call ⟨.builtin .copy, _, _⟩, _, _, _, _⟩ :: _) _ _); refine wpl_copy _ rfl _ _ _ _ rfl 5 Try.underlying31 size_u8 w.heap.size _ 508 _ (by rfl) hown1 _ (l.map byteVal) (by rfl) (H.out.ext hx1).reads l.length (by simp) hl ?_; intro w2 hown2 hg2)
    | fail)
  have hx2 : Ext w w2 := hx1.grown hg2 (by intro k hk; simp [Value.ownBlock] at hk; omega)
  have hrow : w2.ownsRow w.heap.size 5 1 (.slice (some ⟨w.heap.size, 0, none⟩) 508 508) 508 ((l ++ List.replicate (508 - l.length) 0).map byteVal) := by
    have e : (l ++ List.replicate (508 - l.length) (0 : UInt8)).map byteVal = l.map byteVal ++ (List.replicate 508 (Value.int .u8 0)).drop l.length := by
      rw [List.map_append, List.map_replicate, List.drop_replicate]; rfl
    rw [e]; exact hown2
  have hbs := Bs.of_own hrow
  have hxl : (l ++ List.replicate (508 - l.length) (0 : UInt8)).length = 508 := by rw [List.length_append, List.length_replicate]; omega
  generalize hxe : l ++ List.replicate (508 - l.length) 0 = x at *
  have HXE := Lib.hid hxe
  clear hxe
  have HX := Lib.hid hx2
  have HB := Lib.hid hbs
  have hsl := sum_lt x
  clear hown1 hown2 hg1 hg2 hx1 hx2 hrow hbs
  refine (sum_one5 _ x w2 HB.out rfl).mono ?_
  rintro e w3 ⟨rfl, rfl⟩
  generalize hne : S.sum x = n at *
  have HNE := Lib.hid hne
  clear hne
  have hx3 := HX.out.alloc (.cells #[.slice (some ⟨w.heap.size, 0, none⟩) 508 508] 31)
  have hb3 := HB.out.ext (Ext.of_alloc w2 (.cells #[.slice (some ⟨w.heap.size, 0, none⟩) 508 508] 31))
  go_wp2_with fail
  refine (put_any _ x n 4 _ (by omega) hb3 (by omega) (by omega) (by omega)).mono ?_
  rintro e w4 ⟨v4, rfl, hown4, hx4⟩
  have hs4 : W.sz 4 = 4 := by decide
  rw [hs4] at hown4
  have HO := Lib.hid (ownsRow_base5 hown4 (Nat.le_trans HX.out.size (Ext.of_alloc w2 (.cells #[.slice (some ⟨w.heap.size, 0, none⟩) 508 508] 31)).size))
  have HX4 := Lib.hid (hx3.trans hx4)
  clear hown4 hx4 hx3 hb3 HB
  go_wp2
  go_ret
  rw [HXE.out, HNE.out]
  exact ⟨_, rfl, HO.out, HX4.out⟩

set_option maxRecDepth 100000 in
set_option maxHeartbeats 1600000 in
theorem head_any (gen : Nat) (w : World) (h : gen < 4294967296) :
    Calls Try.prog 69 #[.int .u32 (gen : Int)] w fun e w' => MadeB w w' (W5.head gen) e := by
  unfold MadeB W5.head
  have hb := Bs.lit w [1] 5 (by simp [maxLen])
  have hx := Ext.of_alloc w (.cells ([1].map byteVal).toArray 5)
  have hgi : (gen : Int) < 4294967296 := by omega
  have hs4 : W.sz 4 = 4 := by decide
  go_enter Try.func69, Try.ntmps69
  go_wp2_with fail
  refine (put_any _ [1] gen 4 _ (by omega) hb (by simp) (by omega) (by omega)).mono ?_
  rintro e w2 ⟨v2, rfl, hown2, hx2⟩
  rw [hs4] at hown2
  have hb2 := Bs.of_own hown2
  have hx3 := hx.trans hx2
  go_wp2_with fail
  refine (sealed_any _ _ w2 hb2 (by rw [List.length_append, W.be_length]; simp)).mono ?_
  rintro e w3 ⟨v3, rfl, hown3, hx4⟩
  have HO := Lib.hid (ownsRow_base5 hown3 hx3.size)
  have HX := Lib.hid (hx3.trans hx4)
  clear hown2 hx2 hb2 hx3 hown3 hx4 hb hx
  go_wp2
  go_ret
  exact ⟨_, rfl, HO.out, HX.out⟩
end Go.Proofs.Ytmcmocakfhedfaa
