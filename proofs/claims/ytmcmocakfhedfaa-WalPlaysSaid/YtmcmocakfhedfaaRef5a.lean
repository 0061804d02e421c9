/- The document's disk: zeros, last, Sector, Read. -/
import Derived.Test.YtmcmocakfhedfaaDisk4
import Derived.Test.YtmcmocakfhedfaaAppRow
import Derived.Test.YtmcmocakfhedfaaSameT
namespace Go.Proofs.Ytmcmocakfhedfaa
open Go.RowKit

def wc (x : Int × List UInt8) : List Value := [.int .i64 x.1, strV x.2]
theorem wc_len (x : Int × List UInt8) : (wc x).length = 2 := rfl
/-- A row of the document's writes. -/
def RowIn (w : World) (v : Value) (l : List (Int × List UInt8)) : Prop := w.ownsRow 0 107 2 v l.length (l.flatMap wc)
theorem RowIn.ext {w w' : World} {v : Value} {l : List (Int × List UInt8)} (h : RowIn w v l) (hx : Ext w w') : RowIn w' v l := hx.keptOwn h
theorem RowIn.nil (w : World) : RowIn w (.slice none 0 0) [] := World.ownsRow_nil _ _ _ _
theorem RowIn.shape {w : World} {v : Value} {l : List (Int × List UInt8)} (h : RowIn w v l) : ∃ a cap, v = .slice a l.length cap := by
  rcases h.2 with ⟨rfl, h0⟩ | ⟨g, cap, cur, rfl, _⟩
  · exact ⟨none, 0, by rw [h0]⟩
  · exact ⟨_, _, rfl⟩
theorem RowIn.len {w : World} {v : Value} {l : List (Int × List UInt8)} (h : RowIn w v l) : l.length ≤ 9223372036854775807 := by
  rcases h.2 with ⟨_, h0⟩ | ⟨g, cap, cur, _, _, _, hnc, hcm, _⟩
  · omega
  · unfold maxLen at hcm; omega

set_option maxRecDepth 100000 in
set_option maxHeartbeats 800000 in
theorem ref_zeros (w : World) : Calls Try.prog 64 #[] w fun e w' => e = .returned (strV (List.replicate 512 0)) ∧ w = w' := by
  go_enter Try.func64, Try.ntmps64
  go_wp2
  go_loop [1] (fun sv => ∃ k N : Nat, k ≤ 9 ∧ Hid (N = 2 ^ k) ∧ sv = .string ⟨(List.replicate N (0 : UInt8)).toArray⟩) (fun sv => match sv with | .string s => 512 - s.size | _ => 0)
  case atStart => exact ⟨0, 1, by omega, rfl, rfl⟩
  case round =>
    obtain ⟨k, N, hk, hN, rfl⟩ := hrel
    by_cases hk9 : k < 9
    · have hN2 : N < 512 ∧ 0 < N := by
        have h1 : 2 ^ k ≤ 2 ^ 8 := Nat.pow_le_pow_right (by omega) (by omega)
        have h2 : 0 < 2 ^ k := Nat.pow_pos (by omega)
        rw [hN.out]; omega
      have hNi : (N : Int) < 512 := by omega
      have hadd : (⟨(List.replicate N (0 : UInt8)).toArray⟩ : ByteArray) ++ ⟨(List.replicate N (0 : UInt8)).toArray⟩ = ⟨(List.replicate (N + N) (0 : UInt8)).toArray⟩ := by
        rw [ba_append, List.replicate_append_replicate]
      have hN3 : Hid (N + N = 2 ^ (k + 1)) := by unfold Hid; rw [hN.out, Nat.pow_succ]; omega
      have hsz : (⟨(List.replicate N (0 : UInt8)).toArray⟩ : ByteArray).size = N := by simp [ByteArray.size]
      have hsz2 : (⟨(List.replicate (N + N) (0 : UInt8)).toArray⟩ : ByteArray).size = N + N := by simp [ByteArray.size]
      have hsz3 : (⟨(List.replicate N (0 : UInt8)).toArray⟩ : ByteArray).data.size = N := by simp
      generalize hS : (⟨(List.replicate N (0 : UInt8)).toArray⟩ : ByteArray) = S at *
      have HS := Lib.hid hS
      clear hS
      go_wp2
      go_round
      case rel => exact ⟨k + 1, N + N, by omega, hN3, by simp⟩
      case measure => (simp only [ByteArray.size, Array.size_replicate, List.size_toArray, List.length_replicate]; omega)
    · obtain rfl : k = 9 := by omega
      obtain rfl : N = 512 := by rw [hN.out]
      have hsz : (⟨(List.replicate 512 (0 : UInt8)).toArray⟩ : ByteArray).size = 512 := by simp only [ByteArray.size, List.size_toArray, List.length_replicate]
      generalize hS : (⟨(List.replicate 512 (0 : UInt8)).toArray⟩ : ByteArray) = S at *
      go_wp2
      go_ret
      rw [← hS]
      exact ⟨rfl, rfl⟩

/-- What 'last' tells. -/
def lastV : Option (List UInt8) → Value
  | some s => .tuple #[strV s, .bool true]
  | none => .tuple #[strV [], .bool false]
set_option maxRecDepth 100000 in
set_option maxHeartbeats 800000 in
theorem ref_last (v : Value) (l : List (Int × List UInt8)) (i : Int) (w : World) (h : RowIn w v l) :
    Calls Try.prog 63 #[v, .int .i64 i] w fun e w' => e = .returned (lastV (D.look l i)) ∧ w = w' := by
  obtain ⟨a, cap, rfl⟩ := h.shape
  have hl := h.len
  have H := Lib.hid h
  clear h
  go_enter Try.func63, Try.ntmps63
  go_wp2
  go_loop [6] (fun kv => ∃ k : Nat, k ≤ l.length ∧ kv = .int .i64 ((k : Int) - 1) ∧ Hid (D.look l i = D.look (l.take k) i)) (fun kv => (intOf kv + 1).toNat)
  case atStart => exact ⟨l.length, Nat.le_refl _, rfl, by unfold Hid; rw [List.take_length]⟩
  case round =>
    obtain ⟨k, hk, rfl, hlk⟩ := hrel
    match k, hk, hlk with
    | 0, hk, hlk =>
      have hnone : D.look l i = none := by rw [hlk.out]; rfl
      have HN := Lib.hid hnone
      clear hnone hlk
      go_wp2
      go_ret2
      rw [HN.out]
      exact ⟨rfl, rfl⟩
    | k + 1, hk, hlk =>
      have e : (((k + 1 : Nat) : Int) - 1) = (k : Int) := by omega
      rw [e]
      clear e
      have hkl : k < l.length := by omega
      obtain ⟨g, cp, heq, _, _, hcp, hcm, hrg⟩ := own_range H.out (fun x _ => wc_len x) (by decide) k hkl
      simp only [Value.slice.injEq] at heq
      obtain ⟨rfl, _, rfl⟩ := heq
      have hr := hrg k hkl
      have hck : w.cell? ⟨g, k * 2, none⟩ = some (.int .i64 l[k].1) := hr 0 _ rfl
      have hcs : w.cell? ⟨g, k * 2 + 1, none⟩ = some (strV l[k].2) := hr 1 _ rfl
      have hlt := D.look_take l k hkl i
      by_cases hmi : l[k].1 = i
      · rw [if_pos hmi] at hlt
        have HN := Lib.hid (hlk.out.trans hlt)
        rw [hmi] at hck
        clear hlt hr hrg hmi hlk
        generalize l[k].2 = S at *
        unfold strV at hcs
        go_wp2
        go_ret2
        rw [HN.out]
        exact ⟨rfl, rfl⟩
      · rw [if_neg hmi] at hlt
        have hne : (l[k].1 == i) = false := beq_eq_false_iff_ne.2 hmi
        have hl2 : Hid (D.look l i = D.look (l.take k) i) := by unfold Hid; rw [hlk.out, hlt]
        clear hlt hr hrg hlk hmi hcs
        go_wp2
        go_round
        case rel => exact ⟨k, by omega, rfl, hl2⟩
        case measure => (simp [intOf]; try omega)

/-- The document's disk. -/
structure Ref4 where
  n : Int
  safe : List (Int × List UInt8)
  wait : List (Int × List UInt8)
  armed : Bool
  down : Bool
  after : Int
def R4.sector (r : Ref4) (i : Int) : List UInt8 := (D.look r.wait i).getD ((D.look r.safe i).getD (List.replicate 512 0))
def R4.readE (r : Ref4) (i : Int) : Int := if i < 0 ∨ r.n ≤ i then 1 else if r.down then 3 else 0
def R4.readB (r : Ref4) (i : Int) : List UInt8 := if i < 0 ∨ r.n ≤ i then [] else if r.down then [] else R4.sector r i
/-- Its value. -/
def rv (r : Ref4) (sv wv : Value) : Value := .agg #[.int .i64 r.n, sv, wv, .bool r.armed, .bool r.down, .int .i64 r.after]

set_option maxRecDepth 100000 in
set_option maxHeartbeats 800000 in
theorem ref_sector (r : Ref4) (sv wv : Value) (i : Int) (w : World) (hs : RowIn w sv r.safe) (hw : RowIn w wv r.wait) :
    Calls Try.prog 41 #[rv r sv wv, .int .i64 i] w fun e w' => e = .returned (strV (R4.sector r i)) ∧ Ext w w' := by
  obtain ⟨n, safe, wait, armed, down, after⟩ := r
  simp only at hs hw
  have HS := Lib.hid hs
  have HW := Lib.hid hw
  clear hs hw
  unfold rv R4.sector
  simp only
  go_enter Try.func41, Try.ntmps41
  have hx1 := Ext.of_alloc w (.cells #[.int .i64 n, sv, wv, .bool armed, .bool down, .int .i64 after] 55)
  cases hlw : D.look wait i with
  | some s =>
    go_wp2_with fail
    refine (ref_last wv wait i _ (HW.out.ext hx1)).mono ?_
    rintro e w1 ⟨rfl, rfl⟩
    rw [hlw]
    unfold lastV strV
    go_wp2
    go_ret
    exact ⟨rfl, hx1⟩
  | none =>
    have c1 : (w.alloc (.cells #[.int .i64 n, sv, wv, .bool armed, .bool down, .int .i64 after] 55)).cell? ⟨w.heap.size, 1, none⟩ = some sv := by rw [World.cell?_alloc_at _ _ _ _ rfl]; rfl
    have h1 := HS.out.ext hx1
    have h2 := HW.out.ext hx1
    go_wp2_with fail
    generalize w.alloc (.cells #[.int .i64 n, sv, wv, .bool armed, .bool down, .int .i64 after] 55) = w1 at *
    refine (ref_last wv wait i _ h2).mono ?_
    rintro e w2 ⟨rfl, rfl⟩
    rw [hlw]
    unfold lastV strV
    go_wp2_with fail
    refine (ref_last sv safe i _ h1).mono ?_
    rintro e w2 ⟨rfl, rfl⟩
    cases hls : D.look safe i with
    | some s =>
      unfold lastV strV
      go_wp2
      go_ret
      rw [hls]
      exact ⟨rfl, hx1⟩
    | none =>
      unfold lastV strV
      go_wp2_with fail
      refine (ref_zeros _).mono ?_
      rintro e w2 ⟨rfl, rfl⟩
      go_wp2
      go_ret
      rw [hls]
      exact ⟨by first | rfl | (simp only [Option.getD_none]; assumption), hx1⟩
/-- What Read tells. -/
def readV (r : Ref4) (i : Int) : Value := .tuple #[strV (R4.readB r i), .int .i64 (R4.readE r i)]
set_option maxRecDepth 100000 in
set_option maxHeartbeats 800000 in
theorem ref_read (r : Ref4) (sv wv : Value) (i : Int) (w : World) (hs : RowIn w sv r.safe) (hw : RowIn w wv r.wait) :
    Calls Try.prog 87 #[rv r sv wv, .int .i64 i] w fun e w' => e = .returned (readV r i) ∧ Ext w w' := by
  obtain ⟨n, safe, wait, armed, down, after⟩ := r
  have hsec := fun w (hs : RowIn w sv safe) (hw : RowIn w wv wait) => ref_sector ⟨n, safe, wait, armed, down, after⟩ sv wv i w hs hw
  simp only at hs hw
  have HS := Lib.hid hs
  have HW := Lib.hid hw
  clear hs hw
  have hx1 := Ext.of_alloc w (.cells #[.int .i64 n, sv, wv, .bool armed, .bool down, .int .i64 after] 55)
  by_cases h1 : i < 0 ∨ n ≤ i
  · have hr : readV ⟨n, safe, wait, armed, down, after⟩ i = .tuple #[strV [], .int .i64 1] := by
      unfold readV R4.readB R4.readE
      rw [if_pos h1, if_pos h1]
    rw [hr]
    unfold rv strV
    simp only
    clear hr hsec
    by_cases h2 : i < 0
    · clear h1
      go_enter Try.func87, Try.ntmps87
      go_wp2
      go_ret2
      exact ⟨rfl, hx1⟩
    · have h3 : n ≤ i := by omega
      clear h1
      go_enter Try.func87, Try.ntmps87
      go_wp2
      go_ret2
      exact ⟨rfl, hx1⟩
  · have h2 : ¬ i < 0 := by omega
    have h3 : ¬ n ≤ i := by omega
    cases down
    · have hr : readV ⟨n, safe, wait, armed, false, after⟩ i = .tuple #[strV (R4.sector ⟨n, safe, wait, armed, false, after⟩ i), .int .i64 0] := by
        unfold readV R4.readB R4.readE
        rw [if_neg h1, if_neg h1]; rfl
      rw [hr]
      unfold rv
      unfold rv at hsec
      simp only at hsec ⊢
      generalize R4.sector ⟨n, safe, wait, armed, false, after⟩ i = S at *
      have hc := hsec _ (HS.out.ext hx1) (HW.out.ext hx1)
      clear hr hsec h1
      go_enter Try.func87, Try.ntmps87
      go_wp2_with fail
      refine hc.mono ?_
      rintro e w2 ⟨rfl, hx2⟩
      have HXX := Lib.hid (hx1.trans hx2)
      clear hx1 hx2 hc
      unfold strV
      go_wp2
      go_ret2
      exact ⟨rfl, HXX.out⟩
    · have hr : readV ⟨n, safe, wait, armed, true, after⟩ i = .tuple #[strV [], .int .i64 3] := by
        unfold readV R4.readB R4.readE
        rw [if_neg h1, if_neg h1]; rfl
      rw [hr]
      unfold rv strV
      simp only
      clear hr hsec h1
      go_enter Try.func87, Try.ntmps87
      go_wp2
      go_ret2
      exact ⟨rfl, hx1⟩
end Go.Proofs.Ytmcmocakfhedfaa
