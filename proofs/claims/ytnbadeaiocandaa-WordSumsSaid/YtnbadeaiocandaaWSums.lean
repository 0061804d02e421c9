/- The walk of jetwaylaw01.WordSums: the check sum of any parts is the document's, however the bytes are cut into parts. -/
import Derived.Test.YtnbadeaiocandaaAwake
import Derived.Test.YtnbadeaiocandaaLong
import Derived.Test.YtnbadeaiocandaaRefSum
import Derived.Test.YtnbadeaiocandaaWVars
import Derived.Test.YtnbadeaiocandaaWTurned
import Derived.Test.YtnbadeaiocandaaWPuts
namespace Go.Proofs.Ytnbadeaiocandaa
open Go.RowKit

theorem refSum_l (l : List UInt8) (w : World) (hl : l.length ≤ 9223372036854775807) :
    Calls Try.prog 17 #[.string ⟨l.toArray⟩] w fun e w' => e = .returned (.int .u32 (S.sum l : Int)) ∧ w = w' := by
  have h := refSum ⟨l.toArray⟩ w (by simpa [ByteArray.size] using hl)
  simpa using h

theorem flat_take (ls : List (List UInt8)) (k : Nat) (h : k < ls.length) : (ls.take (k + 1)).flatten = (ls.take k).flatten ++ ls[k] := by
  rw [List.take_succ_eq_append_getElem h, List.flatten_append]; simp

set_option maxRecDepth 100000 in
set_option maxHeartbeats 3200000 in
theorem wordSums_cons (b off cap : Nat) (ls : List (List UInt8)) (w : World) (hl : ls.length ≤ 9223372036854775807) (hp : 0 < ls.length) (hv : Rows2 w (.slice (some ⟨b, off, none⟩) ls.length cap) ls)
    (hr : Hid (∀ i (h : i < ls.length), ∃ u, Bs w u ls[i] ∧ w.cell? ⟨b, off + i, none⟩ = some u)) :
    Calls Try.prog 4 #[.slice (some ⟨b, off, none⟩) ls.length cap] w fun e w' => e = .returned (.bool true) ∧ Ext w w' := by
  have HV := Lib.hid hv
  clear hv
  go_enter Try.func4, Try.ntmps4
  go_wp2_with fail
  refine (awake w).mono ?_
  rintro e w1 ⟨rfl, hx1⟩
  have HX1 := Lib.hid hx1
  clear hx1
  go_wp2
  go_loopw [3, 4] (fun av iv wr => ∃ k : Nat, k ≤ ls.length ∧ iv = .int .i64 k ∧ wr.ownsRow w1.heap.size 5 1 av ((ls.take k).flatten).length (((ls.take k).flatten).map byteVal) ∧ ((ls.take k).flatten).length ≤ 5000 ∧ Ext w1 wr) (fun _ iv _ => ls.length - (intOf iv).toNat)
  case atStart => exact ⟨0, by omega, rfl, World.ownsRow_nil _ _ _ _, by simp, Ext.refl _⟩
  case round =>
    obtain ⟨k, hk, rfl, hown, h5, hx⟩ := hrel
    obtain ⟨a3, c3, rfl⟩ := (Bs.of_own hown).shape
    have HX := Lib.hid hx
    have HO := Lib.hid hown
    have hsz := hx.size
    clear hx hown
    by_cases hkl : k < ls.length
    · by_cases h1000 : (1000 : Int) ≤ (k : Int)
      · go_wp2
        go_ret
        exact ⟨rfl, HX1.out.trans HX.out⟩
      · obtain ⟨u, hu, hcell⟩ := hr.out k hkl
        have hcell' := (HX1.out.trans HX.out).cell hcell
        have hu' := Lib.hid ((hu.ext HX1.out).ext HX.out)
        obtain ⟨au, cu, rfl⟩ := hu.shape
        have hfl := Lib.hid (flat_take ls k hkl)
        clear hcell hu
        generalize hPRE : (ls.take k).flatten = PRE at *
        have HPRE := Lib.hid hPRE
        clear hPRE
        by_cases h50 : (5000 : Int) - (PRE.length : Int) < (ls[k].length : Int)
        · go_wp2
          go_ret
          exact ⟨rfl, HX1.out.trans HX.out⟩
        · have h50' : PRE.length + ls[k].length ≤ 5000 := by omega
          go_wp2_with (at_builtin; refine wpl_append_b _ rfl _ _ rfl w1.heap.size _ PRE (by rfl) HO.out _ _ (by rfl) hu'.out (PRE ++ ls[k]) rfl (by simp; omega) hsz ?_; intro v' w2 hown' hgrow)
          have hx2 := Lib.hid (HX.out.grown hgrow (fun j hj => (HO.out.lt j hj).1))
          have hown2 := Lib.hid hown'
          clear hown' hgrow
          go_roundw
          case rel => exact ⟨k + 1, by omega, by go_num, by rw [hfl.out]; exact hown2.out, by rw [hfl.out]; simp; omega, hx2.out⟩
          case measure => simp [intOf]; omega
    · have hall : (ls.take k).flatten = ls.flatten := by rw [List.take_of_length_le (by omega)]
      rw [hall] at HO h5
      rw [hall]
      have HB := Lib.hid (Bs.of_own HO.out)
      have hca := HB.out.str
      unfold Str at hca
      have hxd := Ext.of_drew wr
      have HVR := Lib.hid ((HV.out.ext HX1.out).ext HX.out)
      have HXX := Lib.hid (HX1.out.trans HX.out)
      clear hall
      have HSA : Hid (∀ W : World, Rows2 W (.slice (some ⟨b, off, none⟩) ls.length cap) ls → Calls Try.prog 16 #[.slice (some ⟨b, off, none⟩) ls.length cap] W fun e w' => e = .returned (.int .u32 (S.sum ls.flatten : Int)) ∧ W = w') := Lib.hid (fun W h => sum_any _ ls W h)
      generalize ls.flatten = FL at *
      have HS1 : Hid (Calls Try.prog 16 #[.slice (some ⟨wr.heap.size, 0, none⟩) 1 1] (wr.alloc (.cells #[.slice a3 FL.length c3] 22)).drew fun e w' => e = .returned (.int .u32 (S.sum FL : Int)) ∧ (wr.alloc (.cells #[.slice a3 FL.length c3] 22)).drew = w') := by
        have h2 := sum_any (.slice (some ⟨wr.heap.size, 0, none⟩) 1 1) [FL] ((wr.alloc (.cells #[.slice a3 FL.length c3] 22)).drew) ((Rows2.one (Reads.one wr _ 22 rfl) (HB.out.ext (Ext.of_alloc _ _))).ext (Ext.of_drew _))
        simpa [Hid] using h2
      go_wp2_with fail
      go_region_held3 (fun w' => Ext wr w') (first | assumption | exact Ext.alloc (by assumption) _ | exact (Ext.of_alloc _ _).drew) (first
        | (go_at_call 17; refine (refSum_l FL _ (by omega)).mono ?_; rintro e w4 ⟨rfl, rfl⟩)
        | (go_at_call_of 16 (Value.slice (some ⟨b, off, none⟩) ls.length cap); refine (HSA.out _ (by exact HVR.out.ext (by first | assumption | exact Ext.alloc (by assumption) _ | exact (Ext.of_alloc _ _).drew))).mono ?_; rintro e w4 ⟨rfl, rfl⟩)
        | (go_at_call 16; refine HS1.out.mono ?_; rintro e w4 ⟨rfl, rfl⟩))
      go_wp2
      go_ret
      exact ⟨rfl, HXX.out.trans (by assumption)⟩

set_option maxRecDepth 100000 in
set_option maxHeartbeats 1600000 in
theorem wordSums_nil (a : Option Addr) (cap : Nat) (w : World) (hv : Rows2 w (.slice a 0 cap) []) :
    Calls Try.prog 4 #[.slice a 0 cap] w fun e w' => e = .returned (.bool true) ∧ Ext w w' := by
  have HV := Lib.hid hv
  clear hv
  go_enter Try.func4, Try.ntmps4
  go_wp2_with fail
  refine (awake w).mono ?_
  rintro e w1 ⟨rfl, hx1⟩
  have HX1 := Lib.hid hx1
  clear hx1
  have hca := (Bs.nil w1).str
  unfold Str at hca
  have hxd := Ext.of_drew w1
  have HVR := Lib.hid (HV.out.ext HX1.out)
  have HSA : Hid (∀ W : World, Rows2 W (.slice a 0 cap) [] → Calls Try.prog 16 #[.slice a 0 cap] W fun e w' => e = .returned (.int .u32 (S.sum [] : Int)) ∧ W = w') := Lib.hid (fun W h => by simpa using sum_any _ [] W h)
  have HS1 : Hid (Calls Try.prog 16 #[.slice (some ⟨w1.heap.size, 0, none⟩) 1 1] (w1.alloc (.cells #[.slice none 0 0] 22)).drew fun e w' => e = .returned (.int .u32 (S.sum [] : Int)) ∧ (w1.alloc (.cells #[.slice none 0 0] 22)).drew = w') := by
    have h2 := sum_any (.slice (some ⟨w1.heap.size, 0, none⟩) 1 1) [[]] ((w1.alloc (.cells #[.slice none 0 0] 22)).drew) ((Rows2.one (Reads.one w1 _ 22 rfl) ((Bs.nil w1).ext (Ext.of_alloc _ _))).ext (Ext.of_drew _))
    simpa [Hid] using h2
  have h00 : S.sum [] = 0 := by decide
  rw [h00] at HSA HS1
  have hrs : Hid (∀ W : World, Calls Try.prog 17 #[.string ⟨#[]⟩] W fun e w' => e = .returned (.int .u32 0) ∧ W = w') := Lib.hid (fun W => by have h := refSum_l [] W (by simp); rw [h00] at h; simpa using h)
  clear h00
  go_wp2
  refine wp_loop_rounds 1 ?_
  rw [rounds_succ]
  go_wp2_with fail
  go_region_held3 (fun w' => Ext w1 w') (first | assumption | exact Ext.alloc (by assumption) _ | exact (Ext.of_alloc _ _).drew) (first
    | (go_at_call 17; refine (hrs.out _).mono ?_; rintro e w4 ⟨rfl, rfl⟩)
    | (go_at_call_of 16 (Value.slice a 0 cap); refine (HSA.out _ (by exact HVR.out.ext (by first | assumption | exact Ext.alloc (by assumption) _ | exact (Ext.of_alloc _ _).drew))).mono ?_; rintro e w4 ⟨rfl, rfl⟩)
    | (go_at_call 16; refine HS1.out.mono ?_; rintro e w4 ⟨rfl, rfl⟩))
  go_wp2
  go_ret
  exact ⟨rfl, HX1.out.trans (by assumption)⟩

theorem walk_wordSums (v : Value) (ls : List (List UInt8)) (w : World) (h : Rows2 w v ls) :
    Calls Try.prog 4 #[v] w fun e w' => e = .returned (.bool true) ∧ Ext w w' := by
  obtain ⟨hl, h2⟩ := h.open
  rcases h2 with ⟨a, cap, rfl, rfl⟩ | ⟨b, off, cap, rfl, hp, hr⟩
  · exact wordSums_nil a cap w h
  · exact wordSums_cons b off cap ls w hl hp h hr
end Go.Proofs.Ytnbadeaiocandaa
