import Derived.Test.YtnjfioikpajhlaaGreatMRef6
import Derived.Test.YtnjfioikpajhlaaGreatRefReadVar
set_option maxRecDepth 100000
set_option maxHeartbeats 64000000
/- The document's text, Read. -/
namespace Go.Proofs.YtnjfioikpajhlaaGreat
open Go.RowKit Go.Shelf
theorem W.rv_size : ∀ (l : List UInt8) (i n : Nat), (W.rv l i n).2.2 = 0 -> i < (W.rv l i n).2.1 /\ (W.rv l i n).2.1 <= i + l.length
 | [], i, n, h => by rw [W.rv_nil] at h; cases h
 | x :: r, i, n, h => by
  by_cases h1 : (i = 9 /\ 1 < x.toNat) ∨ (0 < i /\ x.toNat = 0)
  ·rw [W.rv_bad x r i n h1] at h; cases h
  ·by_cases h2 : x.toNat < 128
   ·rw [W.rv_end x r i n h1 h2]
    simp
   ·rw [W.rv_more x r i n h1 h2] at h ⊢
    have := W.rv_size r (i + 1) _ h
    simp only [List.length_cons]
    omega
theorem ext_mid6 (l : List UInt8) (a b : Nat) : (⟨l.toArray⟩ : ByteArray).extract a b = ⟨((l.drop a).take (b - a)).toArray⟩ := by
 apply ByteArray.ext
 simp [ByteArray.extract, ByteArray.copySlice, List.extract_eq_take_drop]
theorem ext_drop6 (l : List UInt8) (a : Nat) : (⟨l.toArray⟩ : ByteArray).extract a l.length = ⟨(l.drop a).toArray⟩ := by
 rw [ext_mid6, List.take_of_length_le (by simp)]
def textV (b : List UInt8) : Option (List UInt8 × List UInt8) -> Value
 | none => .tuple #[.string ⟨#[]⟩, .int .i64 (-1)]
 | some (t, r) => .tuple #[.string ⟨t.toArray⟩, .int .i64 ((b.length - r.length : Nat) : Int)]
theorem refText (b : List UInt8) (a most : Nat) (w : World) (hb : b.length <= 1000000) (ha : a <= b.length) (hm : most <= 1000000) :
 Calls Tryz.prog 70 #[.string ⟨b.toArray⟩, .int .i64 (a : Int), .int .i64 (most : Int)] w fun e w' => e = .returned (textV b (S6.rdText most (b.drop a))) /\ w = w' := by
 have hex := ext_drop6 b a
 have hex2 := fun (f n : Nat) => ext_mid6 b f (f + n)
 have hsz : (⟨b.toArray⟩ : ByteArray).size = b.length := by show b.toArray.size = _; rw [List.size_toArray]
 have hai : (a : Int) <= (b.length : Int) := by omega
 have ha0 : (0 : Int) <= (a : Int) := by omega
 have hrv := refReadVar ⟨(b.drop a).toArray⟩ w (by show (b.drop a).toArray.size <= _; rw [List.size_toArray, List.length_drop]; omega)
 rw [show (⟨(b.drop a).toArray⟩ : ByteArray).data.toList = b.drop a from rfl] at hrv
 have hrs := W.rv_size (b.drop a) 0 0
 have HT : Hid (S6.rdText most (b.drop a) = match (if (W.rv (b.drop a) 0 0).2.2 ≠ 0 ∨ most < (W.rv (b.drop a) 0 0).1 then none else some ((W.rv (b.drop a) 0 0).1, (b.drop a).drop (W.rv (b.drop a) 0 0).2.1)) with
  | none => none
  | some (n, r) => if r.length < n then none else some (r.take n, r.drop n)) := rfl
 generalize W.rv (b.drop a) 0 0 = R at hrv hrs HT
 obtain ⟨n, z, c⟩ := R
 simp only at hrv hrs HT
 rw [List.length_drop] at hrs
 rw [<- hex] at hrv
 generalize hTT : S6.rdText most (b.drop a) = T at *
 have HTT := qh hTT
 have HRV := qh hrv
 have HEX := qh hex2
 clear hrv hex2 hex hTT
 go_enter Tryz.func70, Tryz.ntmps70
 go_wp2_with fail
 refine HRV.out.mono ?_
 clear HRV
 rintro e w2 ⟨rfl, rfl⟩
 have hcm : IntKind.u64.wrap (most : Int) = (most : Int) := by rw [IntKind.wrap_u64]; omega
 by_cases hc : c = 0
 ·subst hc
  by_cases hn : most < n
  ·have ht : T = none := by rw [HT.out, if_pos (.inr hn)]
   subst ht
   have hni : (most : Int) < (n : Int) := by omega
   clear HT HTT hrs
   go_wp2_with fail
   go_ret2
   exact ⟨rfl, rfl⟩
  ·have hz := hrs rfl
   have hnl : ¬ (most : Int) < (n : Int) := by omega
   have hcn : IntKind.i64.wrap (n : Int) = (n : Int) := by rw [IntKind.wrap_i64]; omega
   have hw1 : IntKind.i64.wrap ((b.length : Int) - (a : Int)) = ((b.length : Int) - (a : Int)) := by rw [IntKind.wrap_i64]; omega
   have hw2 : IntKind.i64.wrap ((b.length : Int) - (a : Int) - (z : Int)) = ((b.length : Int) - (a : Int) - (z : Int)) := by rw [IntKind.wrap_i64]; omega
   have hw3 : IntKind.i64.wrap ((a : Int) + (z : Int)) = ((a + z : Nat) : Int) := by rw [IntKind.wrap_i64]; omega
   by_cases hl : b.length - a - z < n
   ·have ht : T = none := by
     rw [HT.out, if_neg (by simp; omega)]
     simp only
     rw [if_pos (by simp; omega)]
    subst ht
    have hli : (b.length : Int) - (a : Int) - (z : Int) < (n : Int) := by omega
    clear HT HTT hrs
    go_wp2_with fail
    go_ret2
    exact ⟨rfl, rfl⟩
   ·have ht : T = some (((b.drop (a + z)).take n), b.drop (a + z + n)) := by
     rw [HT.out, if_neg (by simp; omega)]
     simp only
     rw [if_neg (by simp; omega)]
     simp [List.drop_drop]
    subst ht
    have hli : ¬ (b.length : Int) - (a : Int) - (z : Int) < (n : Int) := by omega
    have hex3 := HEX.out (a + z) n
    rw [Nat.add_sub_cancel_left] at hex3
    obtain ⟨f, hf⟩ : ∃ f, f = a + z := ⟨_, rfl⟩
    rw [<- hf] at hw3 hex3
    have hw4 : IntKind.i64.wrap ((f : Int) + (n : Int)) = ((f + n : Nat) : Int) := by rw [IntKind.wrap_i64]; omega
    have hb1 : (0 : Int) <= (f : Int) := by omega
    have hb2 : (f : Int) <= ((f + n : Nat) : Int) := by omega
    have hb3 : ((f + n : Nat) : Int) <= (b.length : Int) := by omega
    have HF := qh hf
    clear HT HTT hrs hf HEX
    obtain ⟨g, hg⟩ : ∃ g, g = f + n := ⟨_, rfl⟩
    rw [<- hg] at hw4 hb2 hb3 hex3
    have HG := qh hg
    clear hg
    go_wp2_with fail
    go_ret2
    refine ⟨?_, rfl⟩
    have e1 : ((b.length - (b.drop (a + z + n)).length : Nat) : Int) = (g : Int) := by rw [List.length_drop]; have := HF.out; have := HG.out; omega
    show _ = Ending.returned (.tuple #[.string ⟨((b.drop (a + z)).take n).toArray⟩, .int .i64 ((b.length - (b.drop (a + z + n)).length : Nat) : Int)])
    rw [e1, <- HF.out, <- hex3]
    rfl
 ·have ht : T = none := by rw [HT.out, if_pos (.inl hc)]
  subst ht
  have hci : ((c : Int) == 0) = false := by rw [beq_eq_false_iff_ne]; omega
  clear HT HTT hrs
  go_wp2_with fail
  go_ret2
  exact ⟨rfl, rfl⟩
namespace S6
theorem rv_big : ∀ (r : List UInt8) (i n : Nat), 0 < i -> (W.rv r i n).2.2 = 0 -> 1 < (W.rv r i n).1
 | [], i, n, hi, h => by rw [W.rv_nil] at h; cases h
 | x :: r, i, n, hi, h => by
  by_cases h1 : (i = 9 /\ 1 < x.toNat) ∨ (0 < i /\ x.toNat = 0)
  ·rw [W.rv_bad x r i n h1] at h; cases h
  ·by_cases h2 : x.toNat < 128
   ·rw [W.rv_end x r i n h1 h2]
    have h3 : 1 <= x.toNat := by omega
    have h4 : x.toNat % 128 = x.toNat := Nat.mod_eq_of_lt h2
    have h5 : 128 ^ 1 <= 128 ^ i := Nat.pow_le_pow_right (by decide) hi
    have h6 : 1 * 128 ^ i <= x.toNat * 128 ^ i := Nat.mul_le_mul_right _ h3
    simp only
    rw [h4]
    omega
   ·rw [W.rv_more x r i n h1 h2] at h ⊢
    exact rv_big r (i + 1) _ (by omega) h
theorem rdNum_one (c : UInt8) (r : List UInt8) : rdNum 1 (c :: r) = if c.toNat <= 1 then some (c.toNat, r) else none := by
 unfold rdNum
 by_cases h : c.toNat < 128
 ·rw [W.rv_end c r 0 0 (by omega) h]
  by_cases h1 : c.toNat <= 1
  ·rw [if_pos h1, if_neg (by simp; omega)]
   simp
   omega
  ·rw [if_neg h1, if_pos (by simp; omega)]
 ·rw [W.rv_more c r 0 0 (by omega) h, if_neg (show ¬ c.toNat <= 1 by omega)]
  rw [if_pos]
  by_cases h0 : (W.rv r (0 + 1) (0 + c.toNat % 128 * 128 ^ 0)).2.2 = 0
  ·exact .inr (rv_big r (0 + 1) _ (by omega) h0)
  ·exact .inl h0
def wrTail (k : List UInt8) : List UInt8 -> Option (Wr × List UInt8)
 | [] => none
 | c :: r2 => if 1 < c.toNat ∨ k = [] then none else if c.toNat = 0 then some (⟨k, [], true, 0⟩, r2) else (match rdText 4000 r2 with
  | none => none
  | some (v, r3) => some (⟨k, v, false, 0⟩, r3))
theorem rdWr_cons {l : List UInt8} {k r : List UInt8} (h : rdText 32 l = some (k, r)) : rdWr l = wrTail k r := by
 unfold rdWr
 rw [h]
 simp only
 cases r with
 | nil => rfl
 | cons c r2 =>
  unfold wrTail
  rw [rdNum_one]
  by_cases h1 : c.toNat <= 1
  ·rw [if_pos h1]
   simp only
   by_cases hk : k = []
   ·rw [if_pos hk, if_pos (.inr hk)]
   ·rw [if_neg hk, if_neg (show ¬ (1 < c.toNat ∨ k = []) from fun h => h.elim (fun h => by omega) (fun h => hk h))]
    by_cases h0 : c.toNat = 0
    ·rw [if_pos h0, if_neg (by omega)]
    ·rw [if_neg h0, if_pos (by omega)]
     cases rdText 4000 r2 <;> rfl
  ·rw [if_neg h1]
   show (none : Option (Wr × List UInt8)) = (if 1 < c.toNat ∨ k = [] then none else _)
   rw [if_pos (.inl (by omega))]
theorem wrTail_0 {k r2 : List UInt8} (hk : k ≠ []) : wrTail k (0 :: r2) = some (⟨k, [], true, 0⟩, r2) := by
 show (if 1 < (0 : UInt8).toNat ∨ k = [] then (none : Option (Wr × List UInt8)) else if (0 : UInt8).toNat = 0 then some (⟨k, [], true, 0⟩, r2) else _) = _
 rw [if_neg (fun h => h.elim (fun h => absurd h (by decide)) hk), if_pos (by decide)]
theorem wrTail_1n {k r2 : List UInt8} (h : rdText 4000 r2 = none) : wrTail k (1 :: r2) = none := by
 by_cases hk : k = []
 ·exact if_pos (.inr hk)
 ·show (if 1 < (1 : UInt8).toNat ∨ k = [] then (none : Option (Wr × List UInt8)) else if (1 : UInt8).toNat = 0 then some (⟨k, [], true, 0⟩, r2) else _) = _
  rw [if_neg (fun h => h.elim (fun h => absurd h (by decide)) hk), if_neg (by decide), h]
theorem wrTail_1s {k r2 v r3 : List UInt8} (hk : k ≠ []) (h : rdText 4000 r2 = some (v, r3)) : wrTail k (1 :: r2) = some (⟨k, v, false, 0⟩, r3) := by
 show (if 1 < (1 : UInt8).toNat ∨ k = [] then (none : Option (Wr × List UInt8)) else if (1 : UInt8).toNat = 0 then some (⟨k, [], true, 0⟩, r2) else _) = _
 rw [if_neg (fun h => h.elim (fun h => absurd h (by decide)) hk), if_neg (by decide), h]
theorem rdWr_none {l : List UInt8} (h : rdText 32 l = none) : rdWr l = none := by unfold rdWr; rw [h]
theorem rdText_rest {most : Nat} {l t r : List UInt8} (h : rdText most l = some (t, r)) : r = l.drop (l.length - r.length) := by
 unfold rdText rdNum at h
 split at h
 ·cases h
 ·rename_i n0 r0 h0
  split at h0
  ·cases h0
  ·injection h0 with h0; injection h0 with h1 h2
   split at h
   ·cases h
   ·injection h with h; injection h with h3 h4
    subst h4 h2
    rw [List.drop_drop, List.length_drop]
    rename_i hz _ _
    by_cases hq : (W.rv l 0 0).2.1 + n0 <= l.length
    ·congr 1; omega
    ·rw [List.drop_eq_nil_of_le (by omega), List.drop_eq_nil_of_le (by omega)]
theorem rest_at {b : List UInt8} {a most : Nat} {t r : List UInt8} (h : rdText most (b.drop a) = some (t, r)) : r = b.drop (b.length - r.length) /\ r.length <= b.length := by
 have h1 := rdText_rest h
 have h2 := rdText_le h
 rw [List.length_drop] at h1 h2
 refine ⟨?_, by omega⟩
 by_cases ha : a <= b.length
 ·rw [List.drop_drop] at h1
  have e : a + (b.length - a - r.length) = b.length - r.length := by omega
  rw [e] at h1
  exact h1
 ·have : r.length = 0 := by omega
  rw [List.eq_nil_of_length_eq_zero this]
  simp
end S6
def ReadOut (w w' : World) (o : Option (Nat × List S6.Wr)) (e : Ending) : Prop := ∃ (n : Int) (v : Value) (ok : Bool), e = .returned (.tuple #[.int .u64 n, v, .bool ok]) /\ Ext w w' /\ ok = o.isSome /\ ∀ m ws, o = some (m, ws) -> n = (m : Int) /\ RWs w' v ws
theorem ReadOut.no {w w' : World} (h : Ext w w') {o : Option (Nat × List S6.Wr)} (ho : o = none) : ReadOut w w' o (.returned (.tuple #[.int .u64 0, .slice none 0 0, .bool false])) := by
 subst ho
 exact ⟨0, _, false, rfl, h, rfl, fun m ws e => by cases e⟩
theorem refRead6 (b : List UInt8) (w : World) (hb : b.length <= 100000) :
 Calls Tryz.prog 31 #[.string ⟨b.toArray⟩] w fun e w' => ReadOut w w' (S6.readB b) e := by
 have hsz : (⟨b.toArray⟩ : ByteArray).size = b.length := by show b.toArray.size = _; rw [List.size_toArray]
 have hrv := refReadVar ⟨b.toArray⟩ w (by omega)
 rw [show (⟨b.toArray⟩ : ByteArray).data.toList = b from rfl] at hrv
 have hrs := W.rv_size b 0 0
 generalize hO : S6.readB b = O at *
 have HO := qh hO
 have hrn : Hid (S6.rdNum S6.lastN b = if (W.rv b 0 0).2.2 ≠ 0 ∨ S6.lastN < (W.rv b 0 0).1 then none else some ((W.rv b 0 0).1, b.drop (W.rv b 0 0).2.1)) := rfl
 generalize W.rv b 0 0 = R at hrv hrs hrn
 obtain ⟨n0, z0, c0⟩ := R
 simp only at hrv hrs hrn
 have HRV := qh hrv
 clear hrv hO
 go_enter Tryz.func31, Tryz.ntmps31
 go_wp2_with fail
 refine HRV.out.mono ?_
 clear HRV
 rintro e w1 ⟨rfl, rfl⟩
 by_cases hc : c0 = 0
 ·subst hc
  by_cases hn : 9223372036854775807 < n0
  ·have ho : O = none := by rw [<- HO.out]; unfold S6.readB; rw [hrn.out, if_pos (.inr hn)]
   have HN := qh ho
   have hni : (9223372036854775807 : Int) < (n0 : Int) := by omega
   clear hrn hrs ho HO
   go_wp2_with fail
   go_ret3
   exact ReadOut.no (Ext.refl _) HN.out
  ·have hz := (hrs rfl).2
   rw [Nat.zero_add] at hz
   have hni : ¬ (9223372036854775807 : Int) < (n0 : Int) := by omega
   have hrn2 : S6.rdNum S6.lastN b = some (n0, b.drop z0) := by rw [hrn.out, if_neg (by intro h; rcases h with h | h; exact h rfl; exact hn h)]
   have hex := ext_drop6 b z0
   have hrv := refReadVar ⟨(b.drop z0).toArray⟩ w (by show (b.drop z0).toArray.size <= _; rw [List.size_toArray, List.length_drop]; omega)
   rw [show (⟨(b.drop z0).toArray⟩ : ByteArray).data.toList = b.drop z0 from rfl] at hrv
   have hrs2 := W.rv_size (b.drop z0) 0 0
   have hrm : Hid (S6.rdNum 64 (b.drop z0) = if (W.rv (b.drop z0) 0 0).2.2 ≠ 0 ∨ 64 < (W.rv (b.drop z0) 0 0).1 then none else some ((W.rv (b.drop z0) 0 0).1, (b.drop z0).drop (W.rv (b.drop z0) 0 0).2.1)) := rfl
   generalize W.rv (b.drop z0) 0 0 = R at hrv hrs2 hrm
   obtain ⟨c1, z1, e1⟩ := R
   simp only at hrv hrs2 hrm
   rw [List.length_drop] at hrs2
   rw [<- hex] at hrv
   have HRV := qh hrv
   have HRN := qh hrn2
   have hz0 : (0 : Int) <= (z0 : Int) := by omega
   have hz1 : (z0 : Int) <= (b.length : Int) := by omega
   clear hrv hex hrn hrs hrn2 hn
   go_wp2_with fail
   refine HRV.out.mono ?_
   clear HRV
   rintro e w2 ⟨rfl, rfl⟩
   by_cases he : e1 = 0
   ·subst he
    by_cases hm : 64 < c1
    ·have ho : O = none := by rw [<- HO.out]; unfold S6.readB; rw [HRN.out]; simp only; rw [hrm.out, if_pos (.inr hm)]
     have HN := qh ho
     have hmi : (64 : Int) < (c1 : Int) := by omega
     clear hrm hrs2 ho HO HRN
     go_wp2_with fail
     go_ret3
     exact ReadOut.no (Ext.refl _) HN.out
    ·have hmi : ¬ (64 : Int) < (c1 : Int) := by omega
     have hz2 := (hrs2 rfl).2
     have hrm2 : S6.rdNum 64 (b.drop z0) = some (c1, b.drop (z0 + z1)) := by rw [hrm.out, if_neg (by intro h; rcases h with h | h; exact h rfl; exact hm h), List.drop_drop]
     have hro : O = match S6.rdWrs c1 (b.drop (z0 + z1)) with
      | none => none
      | some (ws, r3) => if r3 = [] then some (n0, ws) else none := by rw [<- HO.out]; unfold S6.readB; rw [HRN.out]; simp only; rw [hrm2]; first | rfl | (cases S6.rdWrs c1 (b.drop (z0 + z1)) <;> rfl)
     have HRO := qh hro
     have hat : z0 + z1 <= b.length := by omega
     have hwr : IntKind.i64.wrap ((z0 : Int) + (z1 : Int)) = ((z0 + z1 : Nat) : Int) := by rw [IntKind.wrap_i64]; omega
     have hcc : IntKind.i64.wrap (c1 : Int) = (c1 : Int) := by rw [IntKind.wrap_i64]; omega
     clear hrm hrs2 hrm2 hro HO HRN hz0 hz1
     generalize z0 + z1 = a0 at *
     go_wp2_with fail
     go_loopw [6, 10, 11] (fun av lv iv wr => ∃ (i a : Nat) (ws : List S6.Wr), i <= c1 /\ iv = .int .i64 (i : Int) /\ a <= b.length /\ av = .int .i64 (a : Int) /\ ws.length = i /\ Hid (S6.rdWrs c1 (b.drop a0) = match S6.rdWrs (c1 - i) (b.drop a) with
      | none => none
      | some (xs, r) => some (ws ++ xs, r)) /\ Hid (wr.ownsRow w.heap.size 106 4 lv ws.length (wrcs ws (wvals ws))) /\ Hid (Ext w wr)) (fun _ _ iv _ => c1 - (intOf iv).toNat)
     case atStart =>
      refine ⟨0, a0, [], Nat.zero_le _, rfl, hat, rfl, rfl, ?_, World.ownsRow_nil _ _ _ _, Ext.refl _⟩
      show S6.rdWrs c1 (b.drop a0) = match S6.rdWrs (c1 - 0) (b.drop a0) with
       | none => none
       | some (xs, r) => some ([] ++ xs, r)
      rw [Nat.sub_zero]
      cases S6.rdWrs c1 (b.drop a0) <;> rfl
     case round =>
      obtain ⟨i, a, ws, hi, rfl, ha, rfl, hwl, hS, hO, hX⟩ := hrel
      by_cases hlt : i < c1
      ·have hlti : (i : Int) < (c1 : Int) := by omega
       have htx := refText b a 32 wr (by omega) ha (by omega)
       have hsub : c1 - i = (c1 - (i + 1)) + 1 := by omega
       have hS2 := hS.out
       rw [hsub, S6.rdWrs_succ] at hS2
       generalize hT : S6.rdText 32 (b.drop a) = T at *
       cases T with
       | none =>
        rw [S6.rdWr_none hT] at hS2
        have ho : O = none := by rw [HRO.out, hS2]
        have HN := qh ho
        have HTX := qh htx
        unfold textV at HTX
        clear htx hT hS2 ho hS hsub HRO hO
        go_wp2_with fail
        refine HTX.out.mono ?_
        clear HTX
        rintro e w3 ⟨rfl, rfl⟩
        go_wp2_with fail
        go_ret3
        exact ReadOut.no hX.out HN.out
       | some kr =>
        obtain ⟨k, r⟩ := kr
        obtain ⟨hr1, hr2⟩ := S6.rest_at hT
        rw [S6.rdWr_cons hT] at hS2
        have HTX := qh htx
        unfold textV at HTX
        have hbr : IntKind.i64.wrap (((b.length - r.length : Nat) : Int) + 1) = ((b.length - r.length + 1 : Nat) : Int) := by rw [IntKind.wrap_i64]; omega
        have HR1 := qh hr1
        have HS2 := qh hS2
        clear htx hT hS2 hS hsub hr1
        go_wp2_with fail
        refine HTX.out.mono ?_
        clear HTX
        rintro e w3 ⟨rfl, rfl⟩
        obtain ⟨q, hq⟩ : ∃ q, q = b.length - r.length := ⟨_, rfl⟩
        rw [<- hq] at hbr
        have hq2 : q <= b.length := by omega
        have hq3 : r.length = b.length - q := by omega
        have hr3 : r = b.drop q := by rw [hq]; exact HR1.out
        have hqn : ¬ (q : Int) < 0 := by omega
        rw [<- hq]
        clear HR1 hr2 hq
        by_cases hk : k = []
        ·have hs2 := HS2.out
         rw [show S6.wrTail k r = none by subst hk; cases r with | nil => rfl | cons c r2 => exact if_pos (.inr rfl)] at hs2
         have ho : O = none := by rw [HRO.out, hs2]
         have HN := qh ho
         subst hk
         clear HS2 hs2 ho HRO hO hr3 hq3
         go_wp2_with fail
         go_ret3
         exact ReadOut.no hX.out HN.out
        ·have hk1 : (k == []) = false := by rw [beq_eq_false_iff_ne]; exact hk
         cases r with
         | nil =>
          have hs2 := HS2.out
          rw [show S6.wrTail k [] = none from rfl] at hs2
          have ho : O = none := by rw [HRO.out, hs2]
          have HN := qh ho
          have hqe : q = b.length := by simp at hq3; omega
          subst hqe
          clear HS2 hs2 ho HRO hO hr3 hq3 hk
          go_wp2_with fail
          go_ret3
          exact ReadOut.no hX.out HN.out
         | cons c r2 =>
          have hql : q < b.length := by simp at hq3; omega
          have hqi : (q : Int) < (b.length : Int) := by omega
          have hq0 : (0 : Int) <= (q : Int) := by omega
          have hbc : b[q] = c := by
           have := List.drop_eq_getElem_cons hql
           rw [<- hr3] at this
           exact (List.cons.inj this).1.symm
          have hdr : r2 = b.drop (q + 1) := by
           have := List.drop_eq_getElem_cons hql
           rw [<- hr3] at this
           exact (List.cons.inj this).2
          have hidx : (⟨b.toArray⟩ : ByteArray)[q]'(by rw [hsz]; exact hql) = c := hbc
          clear hbc hr3
          by_cases hc1 : 1 < c.toNat
          ·have hs2 := HS2.out
           rw [show S6.wrTail k (c :: r2) = none from if_pos (.inl hc1)] at hs2
           have ho : O = none := by rw [HRO.out, hs2]
           have HN := qh ho
           clear HS2 hs2 ho HRO hO hq3 hk hdr
           go_wp2_with fail
           go_ret3
           exact ReadOut.no hX.out HN.out
          ·have hol : ws.length <= 100000 := by omega
           by_cases hc0 : c = 0
           ·subst hc0
            have hs2 := HS2.out
            rw [S6.wrTail_0 hk] at hs2
            simp only at hs2
            have hS3 : Hid (S6.rdWrs c1 (b.drop a0) = match S6.rdWrs (c1 - (i + 1)) (b.drop (q + 1)) with
             | none => none
             | some (xs, r) => some ((ws ++ [⟨k, [], true, 0⟩]) ++ xs, r)) := by
             unfold Hid
             rw [hs2, hdr]
             cases S6.rdWrs (c1 - (i + 1)) (b.drop (q + 1)) <;> simp
            have hxa := (Ext.of_alloc wr (.cells #[.string ⟨k.toArray⟩, .string ⟨#[]⟩, .bool true, .int .u64 0] 106)).trans (Ext.of_alloc (wr.alloc (.cells #[.string ⟨k.toArray⟩, .string ⟨#[]⟩, .bool true, .int .u64 0] 106)) (.cells #[.string ⟨k.toArray⟩, .string ⟨#[]⟩, .bool true, .int .u64 0] 106))
            have hrow := ReadsN.row 4 (wr.alloc (.cells #[.string ⟨k.toArray⟩, .string ⟨#[]⟩, .bool true, .int .u64 0] 106)) [.string ⟨k.toArray⟩, .string ⟨#[]⟩, .bool true, .int .u64 0] 106 1 rfl (by unfold maxLen; omega) (by simp [Value.oneCell'])
            rw [World.size_alloc] at hrow
            clear HS2 hs2 hc1 hk hq3 HRO hdr
            go_wp2_with (first
             | ((with_reducible show wpList _ _ _ (⟨some 97, _, _, _, _, _⟩ :: _) _ _); refine wpl_appg el_rwr w.heap.size _ (hX.out.trans hxa).size rfl _ _ rfl u10 ws.length _ (by rfl) (hxa.keptOwn hO.out) (.slice (some ⟨wr.heap.size + 1, 0, none⟩) 1 1) 1 _ (by rfl) hrow (by omega) (by omega) ?_; intro v5 w5 hown5 hg5)
             | fail)
            have HX5 := qh ((hX.out.trans hxa).grown hg5 (fun k hk => (hO.out.lt k hk).1))
            have HO5 : Hid (w5.ownsRow w.heap.size 106 4 v5 (ws ++ [(⟨k, [], true, 0⟩ : S6.Wr)]).length (wrcs (ws ++ [(⟨k, [], true, 0⟩ : S6.Wr)]) (wvals (ws ++ [(⟨k, [], true, 0⟩ : S6.Wr)])))) := (show w5.ownsRow w.heap.size 106 4 v5 (ws ++ [(⟨k, [], true, 0⟩ : S6.Wr)]).length (wrcs (ws ++ [(⟨k, [], true, 0⟩ : S6.Wr)]) (wvals (ws ++ [(⟨k, [], true, 0⟩ : S6.Wr)]))) by
             rw [wvals_append, wrcs_append _ _ _ _ (wvals_len _), List.length_append]
             exact hown5)
            clear hown5 hg5 hxa hrow hO hX
            go_wp2_with fail
            exact ⟨⟨i + 1, q + 1, ws ++ [⟨k, [], true, 0⟩], by omega, by go_num, by omega, by go_num, by simp; omega, hS3, HO5, HX5⟩, by simp [intOf]; omega⟩
           ·have hce : c = 1 := UInt8.toNat_inj.1 (by
             have h1 : c.toNat ≠ 0 := fun h => hc0 (UInt8.toNat_inj.1 (by simpa using h))
             show c.toNat = 1
             omega)
            subst hce
            have htx := fun U => refText b (q + 1) 4000 U (by omega) (by omega) (by omega)
            rw [<- hdr] at htx
            push_cast at htx
            generalize hT2 : S6.rdText 4000 r2 = T2 at *
            cases T2 with
            | none =>
             have hs2 := HS2.out
             rw [S6.wrTail_1n hT2] at hs2
             have ho : O = none := by rw [HRO.out, hs2]
             have HN := qh ho
             have HTX := qh htx
             unfold textV at HTX
             clear HS2 hs2 ho HRO hO hq3 hk hdr htx hT2 hc0 hc1
             go_wp2_with fail
             refine (HTX.out _).mono ?_
             clear HTX
             rintro e w5 ⟨rfl, rfl⟩
             go_wp2_with fail
             go_ret3
             exact ReadOut.no (hX.out.trans (Ext.of_alloc wr _)) HN.out
            | some vr =>
             obtain ⟨v, r3⟩ := vr
             have hs2 := HS2.out
             rw [S6.wrTail_1s hk hT2] at hs2
             simp only at hs2
             obtain ⟨hv1, hv2⟩ := S6.rest_at (b := b) (a := q + 1) (by rw [<- hdr]; exact hT2)
             have HTX := qh htx
             unfold textV at HTX
             obtain ⟨q2, hqq⟩ : ∃ q2, q2 = b.length - r3.length := ⟨_, rfl⟩
             have HTX2 : Hid (∀ U, Calls Tryz.prog 70 #[.string ⟨b.toArray⟩, .int .i64 ((q : Int) + 1), .int .i64 4000] U fun e w' => e = .returned (.tuple #[.string ⟨v.toArray⟩, .int .i64 (q2 : Int)]) /\ U = w') := by rw [hqq]; exact HTX.out
             clear HTX
             have HTX := HTX2
             clear HTX2
             rw [<- hqq] at hv1
             have hqb : q2 <= b.length := by omega
             have hS3 : Hid (S6.rdWrs c1 (b.drop a0) = match S6.rdWrs (c1 - (i + 1)) (b.drop q2) with
              | none => none
              | some (xs, r) => some ((ws ++ [⟨k, v, false, 0⟩]) ++ xs, r)) := by
              unfold Hid
              rw [hs2, hv1]
              cases S6.rdWrs (c1 - (i + 1)) (b.drop q2) <;> simp
             have hqn2 : ¬ (q2 : Int) < 0 := by omega
             have hxa := (Ext.of_alloc wr (.cells #[.string ⟨k.toArray⟩, .string ⟨v.toArray⟩, .bool false, .int .u64 0] 106)).trans (Ext.of_alloc (wr.alloc (.cells #[.string ⟨k.toArray⟩, .string ⟨v.toArray⟩, .bool false, .int .u64 0] 106)) (.cells #[.string ⟨k.toArray⟩, .string ⟨v.toArray⟩, .bool false, .int .u64 0] 106))
             have hrow := ReadsN.row 4 (wr.alloc (.cells #[.string ⟨k.toArray⟩, .string ⟨v.toArray⟩, .bool false, .int .u64 0] 106)) [.string ⟨k.toArray⟩, .string ⟨v.toArray⟩, .bool false, .int .u64 0] 106 1 rfl (by unfold maxLen; omega) (by simp [Value.oneCell'])
             rw [World.size_alloc] at hrow
             clear HS2 hs2 hk hq3 HRO hdr htx hT2 hc0 hc1 hv1 hv2 hqq
             go_wp2_with fail
             refine (HTX.out _).mono ?_
             clear HTX
             rintro e w5 ⟨rfl, rfl⟩
             go_wp2_with (first
              | ((with_reducible show wpList _ _ _ (⟨some 97, _, _, _, _, _⟩ :: _) _ _); refine wpl_appg el_rwr w.heap.size _ (hX.out.trans hxa).size rfl _ _ rfl u10 ws.length _ (by rfl) (hxa.keptOwn hO.out) (.slice (some ⟨wr.heap.size + 1, 0, none⟩) 1 1) 1 _ (by rfl) hrow (by omega) (by omega) ?_; intro v5 w5 hown5 hg5)
              | fail)
             have HX5 := qh ((hX.out.trans hxa).grown hg5 (fun k hk => (hO.out.lt k hk).1))
             have HO5 : Hid (w5.ownsRow w.heap.size 106 4 v5 (ws ++ [(⟨k, v, false, 0⟩ : S6.Wr)]).length (wrcs (ws ++ [(⟨k, v, false, 0⟩ : S6.Wr)]) (wvals (ws ++ [(⟨k, v, false, 0⟩ : S6.Wr)])))) := (show w5.ownsRow w.heap.size 106 4 v5 (ws ++ [(⟨k, v, false, 0⟩ : S6.Wr)]).length (wrcs (ws ++ [(⟨k, v, false, 0⟩ : S6.Wr)]) (wvals (ws ++ [(⟨k, v, false, 0⟩ : S6.Wr)]))) by
              rw [wvals_append, wrcs_append _ _ _ _ (wvals_len _), List.length_append]
              exact hown5)
             clear hown5 hg5 hxa hrow hO hX
             go_wp2_with fail
             exact ⟨⟨i + 1, q2, ws ++ [⟨k, v, false, 0⟩], by omega, by go_num, hqb, rfl, by simp; omega, hS3, HO5, HX5⟩, by simp [intOf]; omega⟩
      ·obtain rfl : i = c1 := by omega
       have hs2 := hS.out
       rw [Nat.sub_self] at hs2
       have hs3 : S6.rdWrs i (b.drop a0) = some (ws, b.drop a) := by
        rw [hs2]
        show some (ws ++ [], b.drop a) = _
        rw [List.append_nil]
       have hge : ¬ (i : Int) < (i : Int) := by omega
       have hro := HRO.out
       rw [hs3] at hro
       by_cases hae : a = b.length
       ·have ho : O = some (n0, ws) := by rw [hro]; simp only; rw [if_pos (by rw [hae]; simp)]
        have HN := qh ho
        clear hs2 hs3 hS HRO hro ho
        subst hae
        go_wp2_with fail
        go_ret3
        refine ⟨(n0 : Int), u10, true, rfl, hX.out, by rw [HN.out]; rfl, fun m xs e => ?_⟩
        rw [HN.out] at e
        obtain ⟨rfl, rfl⟩ := Prod.mk.inj (Option.some.inj e)
        exact ⟨rfl, RWs.of_own hO.out⟩
       ·have ho : O = none := by rw [hro]; simp only; rw [if_neg (by intro h; have := congrArg List.length h; simp at this; omega)]
        have HN := qh ho
        have haeb : ((a : Int) == (b.length : Int)) = false := by rw [beq_eq_false_iff_ne]; omega
        clear hs2 hs3 hS HRO hro ho
        go_wp2_with fail
        go_ret3
        exact ⟨(n0 : Int), u10, false, rfl, hX.out, by rw [HN.out]; rfl, fun m xs e => by rw [HN.out] at e; cases e⟩
   ·have ho : O = none := by rw [<- HO.out]; unfold S6.readB; rw [HRN.out]; simp only; rw [hrm.out, if_pos (.inl he)]
    have HN := qh ho
    have hei : ((e1 : Int) == 0) = false := by rw [beq_eq_false_iff_ne]; omega
    clear hrm hrs2 ho HO HRN
    go_wp2_with fail
    go_ret3
    exact ReadOut.no (Ext.refl _) HN.out
 ·have ho : O = none := by rw [<- HO.out]; unfold S6.readB; rw [hrn.out, if_pos (.inl hc)]
  have HN := qh ho
  have hci : ((c0 : Int) == 0) = false := by rw [beq_eq_false_iff_ne]; omega
  clear hrn hrs ho HO
  go_wp2_with fail
  go_ret3
  exact ReadOut.no (Ext.refl _) HN.out
end Go.Proofs.YtnjfioikpajhlaaGreat
