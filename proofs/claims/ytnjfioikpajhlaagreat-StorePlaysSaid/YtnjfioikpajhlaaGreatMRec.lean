/- MRec: Record SameT. -/
import Derived.Test.YtnjfioikpajhlaaGreatWalU
set_option maxRecDepth 100000
set_option maxHeartbeats 64000000
namespace Go.Proofs.YtnjfioikpajhlaaGreat
open Go.RowKit
namespace W5
def recN (size : Int) : Nat := (max 0 (min size 10000)).toNat
def rec (data : List UInt8) (n : Nat) : List UInt8 := (List.range n).map (fun i => data.getD (i % data.length) 0)
def record (data : List UInt8) (size : Int) : List UInt8 := rec data (recN size)
theorem rec_len (data : List UInt8) (n : Nat) : (rec data n).length = n := by simp [rec]
theorem recN_le (size : Int) : recN size <= 10000 := by unfold recN; omega
theorem record_len (data : List UInt8) (size : Int) : (record data size).length = recN size := rec_len _ _
theorem rec_nil (n : Nat) : rec [] n = List.replicate n 0 := by
 unfold rec
 apply List.ext_getElem
 ·rw [List.length_map, List.length_range, List.length_replicate]
 ·intro i h1 h2
  rw [List.getElem_map, List.getElem_replicate]; rfl
theorem rec_get (data : List UInt8) (n k : Nat) (h : k < (rec data n).length) : (rec data n)[k] = data.getD (k % data.length) 0 := by simp [rec]
def recTo (data : List UInt8) (n k : Nat) : List UInt8 := (rec data n).take k ++ List.replicate (n - k) 0
theorem recTo_len (data : List UInt8) (n k : Nat) (h : k <= n) : (recTo data n k).length = n := by simp [recTo, rec_len]; omega
theorem recTo_set (data : List UInt8) (n k : Nat) (h : k < n) : (recTo data n k).set k (data.getD (k % data.length) 0) = recTo data n (k + 1) := by
 have hl : k < (rec data n).length := by rw [rec_len]; exact h
 unfold recTo
 have h1 : ((rec data n).take k).length = k := by simp [rec_len]; omega
 rw [List.set_append_right _ _ (by omega), h1, Nat.sub_self, List.take_succ_eq_append_getElem hl, rec_get]
 have h2 : n - k = (n - (k + 1)) + 1 := by omega
 rw [h2, List.replicate_succ, List.set_cons_zero]
 simp
theorem recTo_all (data : List UInt8) (n : Nat) : recTo data n n = rec data n := by
 unfold recTo
 rw [List.take_of_length_le (by rw [rec_len]; omega), Nat.sub_self, List.replicate_zero, List.append_nil]
theorem recTo_nil (n k : Nat) (h : k <= n) : recTo [] n k = rec [] n := by
 unfold recTo
 rw [rec_nil, List.take_replicate, List.replicate_append_replicate]
 congr 1; omega
end W5
theorem record_mid (v : Value) (data : List UInt8) (w : World) (h : Bs w v data) (n : Nat) (hn : n <= 10000) :
 Calls Tryz.prog 34 #[v, .int .i64 (n : Int)] w fun e w' => MadeB w w' (W5.rec data n) e := by
 obtain ⟨i0, hi0, hz0, hz1, hz2⟩ := info_parts info_u8
 have hb := qh h
 have hlen := h.length_le
 obtain ⟨a, cap, rfl⟩ := h.shape
 clear h
 unfold MadeB
 have HRL := qh (W5.rec_len data n)
 have hni : (n : Int) <= 10000 := by omega
 have hn1 : decide ((n : Int) < 0) = false := decide_eq_false (by omega)
 have hn2 : decide (10000 < (n : Int)) = false := decide_eq_false (by omega)
 go_enter Tryz.func34, Tryz.ntmps34
 go_wp2_with (first | (at_make; refine wpl_make _ rfl _ _ 56 rfl w.heap.size 5 i0 (.int .u8 0) Tryz.underlying56 hi0 hz0 hz1 rfl .i64 .i64 (n : Int) (n : Int) n n rfl rfl rfl rfl (Nat.le_refl _) (by rw [hz2]; omega) (by unfold maxLen; omega) (Nat.le_refl _) ?_; intro w1 hown hx hg) | fail)
 have hown1 : w1.ownsRow w.heap.size 5 1 (.slice (some ⟨w.heap.size, 0, none⟩) n n) n ((W5.recTo data n 0).map byteVal) := by
  have e : (W5.recTo data n 0).map byteVal = List.replicate n (.int .u8 0) := by unfold W5.recTo; rw [List.take_zero, List.nil_append, Nat.sub_zero, List.map_replicate]; rfl
  rw [e]; exact hown
 have HO := qh hown1
 have HX := qh hx
 clear hown1 hown hx hg
 go_wp2
 go_loopw [6] (fun iv wr => ∃ k : Nat, k <= n /\ iv = .int .i64 k /\ wr.ownsRow w.heap.size 5 1 (.slice (some ⟨w.heap.size, 0, none⟩) n n) n ((W5.recTo data n k).map byteVal) /\ Ext w wr) (fun iv _ => n - (intOf iv).toNat)
 case atStart => exact ⟨0, by omega, rfl, HO.out, HX.out⟩
 case round =>
  obtain ⟨k, hk, rfl, hown, hx⟩ := hrel
  by_cases h0 : data = []
  ·subst h0
   rw [W5.recTo_nil n k hk] at hown
   have HO2 := qh hown
   have HX2 := qh hx
   clear hown hx HO HX
   by_cases hk2 : (k : Int) < (n : Int)
   ·go_wp2
    go_ret
    exact ⟨_, rfl, by rw [HRL.out]; exact HO2.out, HX2.out⟩
   ·go_wp2
    go_ret
    exact ⟨_, rfl, by rw [HRL.out]; exact HO2.out, HX2.out⟩
  ·have hp : 0 < data.length := List.length_pos_iff.2 h0
   have hpi : (0 : Int) < (data.length : Int) := by omega
   by_cases hk2 : k < n
   ·have hk2i : (k : Int) < (n : Int) := by omega
    have hkl : k < (W5.recTo data n k).length := by rw [W5.recTo_len _ _ _ hk]; exact hk2
    have hcell := hown.cellAt k (by rw [Nat.mul_one]; exact hk2)
    rw [List.getElem?_map, List.getElem?_eq_getElem hkl] at hcell
    simp only [Option.map_some] at hcell
    have hfro := hown.frozenAt k
    have hst := (hown.stored k (byteVal (data.getD (k % data.length) 0))).1
    rw [<- List.map_set, W5.recTo_set _ _ _ hk2] at hst
    have hx' := hx.setCell (p := ⟨w.heap.size, k, none⟩) (Nat.le_refl _) (byteVal (data.getD (k % data.length) 0))
    have hmod : k % data.length < data.length := Nat.mod_lt _ hp
    rcases (hb.out.ext hx).open with ⟨_, _, _, h0', _⟩ | ⟨b, off, cap', he, _, _, _, _, hcb⟩
    ·exact absurd h0' h0
    ·obtain ⟨rfl, _, rfl⟩ := Value.slice.inj he
     have hcb2 := hcb (k % data.length) hmod
     have hbv : (Value.int .u8 (data[k % data.length].toNat : Int)) = byteVal (data.getD (k % data.length) 0) := by
      rw [List.getD_eq_getElem?_getD, List.getElem?_eq_getElem hmod]; rfl
     rw [hbv] at hcb2
     have hrem : (k : Int).tmod (data.length : Int) = ((k % data.length : Nat) : Int) := by rw [Int.ofNat_tmod]
     have HST := qh hst
     have HXS := qh hx'
     clear hst hx' hown hx HO HX hb hcb he hbv
     obtain ⟨z, hz⟩ : ∃ z : Int, byteVal (data.getD (k % data.length) 0) = .int .u8 z := ⟨_, rfl⟩
     rw [hz] at HST HXS hcb2
     clear hz
     generalize byteVal (W5.recTo data n k)[k] = u0 at *
     clear hkl
     generalize k % data.length = j at *
     go_wp2
     go_roundw
     case rel => exact ⟨k + 1, by omega, by go_num, HST.out, HXS.out⟩
     case measure => (simp [intOf]; try omega)
   ·obtain rfl : k = n := by omega
    rw [W5.recTo_all] at hown
    have HO2 := qh hown
    have HX2 := qh hx
    clear hown hx HO HX
    go_wp2
    go_ret
    exact ⟨_, rfl, by rw [HRL.out]; exact HO2.out, HX2.out⟩
theorem record_low (v : Value) (data : List UInt8) (w : World) (h : Bs w v data) (s : Int) (hs : s < 0) :
 Calls Tryz.prog 34 #[v, .int .i64 s] w fun e w' => MadeB w w' (W5.rec data 0) e := by
 obtain ⟨i0, hi0, hz0, hz1, hz2⟩ := info_parts info_u8
 have hb := qh h
 have hlen := h.length_le
 obtain ⟨a, cap, rfl⟩ := h.shape
 clear h
 unfold MadeB
 have HRL := qh (W5.rec_len data 0)
 go_enter Tryz.func34, Tryz.ntmps34
 go_wp2_with (first | (at_make; refine wpl_make _ rfl _ _ 56 rfl w.heap.size 5 i0 (.int .u8 0) Tryz.underlying56 hi0 hz0 hz1 rfl .i64 .i64 0 0 0 0 rfl rfl rfl rfl (Nat.le_refl _) (by rw [hz2]; omega) (by unfold maxLen; omega) (Nat.le_refl _) ?_; intro w1 hown hx hg) | fail)
 have hown1 : w1.ownsRow w.heap.size 5 1 (.slice (some ⟨w.heap.size, 0, none⟩) 0 0) 0 ((W5.recTo data 0 0).map byteVal) := by
  have e : (W5.recTo data 0 0).map byteVal = List.replicate 0 (.int .u8 0) := by unfold W5.recTo; rw [List.take_zero, List.nil_append, Nat.sub_zero, List.map_replicate]; rfl
  rw [e]; exact hown
 have HO := qh hown1
 have HX := qh hx
 clear hown1 hown hx hg
 go_wp2
 go_loopw [6] (fun iv wr => ∃ k : Nat, k <= 0 /\ iv = .int .i64 k /\ wr.ownsRow w.heap.size 5 1 (.slice (some ⟨w.heap.size, 0, none⟩) 0 0) 0 ((W5.recTo data 0 k).map byteVal) /\ Ext w wr) (fun iv _ => 0 - (intOf iv).toNat)
 case atStart => exact ⟨0, by omega, rfl, HO.out, HX.out⟩
 case round =>
  obtain ⟨k, hk, rfl, hown, hx⟩ := hrel
  obtain rfl : k = 0 := by omega
  rw [W5.recTo_all] at hown
  have HO2 := qh hown
  have HX2 := qh hx
  clear hown hx HO HX
  go_wp2
  go_ret
  exact ⟨_, rfl, by rw [HRL.out]; exact HO2.out, HX2.out⟩
theorem record_high (v : Value) (data : List UInt8) (w : World) (h : Bs w v data) (s : Int) (hs : 10000 < s) :
 Calls Tryz.prog 34 #[v, .int .i64 s] w fun e w' => MadeB w w' (W5.rec data 10000) e := by
 obtain ⟨i0, hi0, hz0, hz1, hz2⟩ := info_parts info_u8
 have hb := qh h
 have hlen := h.length_le
 obtain ⟨a, cap, rfl⟩ := h.shape
 clear h
 unfold MadeB
 have HRL := qh (W5.rec_len data 10000)
 have hn1 : decide (s < 0) = false := decide_eq_false (by omega)
 go_enter Tryz.func34, Tryz.ntmps34
 go_wp2_with (first | (at_make; refine wpl_make _ rfl _ _ 56 rfl w.heap.size 5 i0 (.int .u8 0) Tryz.underlying56 hi0 hz0 hz1 rfl .i64 .i64 10000 10000 10000 10000 rfl rfl rfl rfl (Nat.le_refl _) (by rw [hz2]; omega) (by unfold maxLen; omega) (Nat.le_refl _) ?_; intro w1 hown hx hg) | fail)
 have hown1 : w1.ownsRow w.heap.size 5 1 (.slice (some ⟨w.heap.size, 0, none⟩) 10000 10000) 10000 ((W5.recTo data 10000 0).map byteVal) := by
  have e : (W5.recTo data 10000 0).map byteVal = List.replicate 10000 (.int .u8 0) := by unfold W5.recTo; rw [List.take_zero, List.nil_append, Nat.sub_zero, List.map_replicate]; rfl
  rw [e]; exact hown
 have HO := qh hown1
 have HX := qh hx
 clear hown1 hown hx hg
 go_wp2
 go_loopw [6] (fun iv wr => ∃ k : Nat, k <= 10000 /\ iv = .int .i64 k /\ wr.ownsRow w.heap.size 5 1 (.slice (some ⟨w.heap.size, 0, none⟩) 10000 10000) 10000 ((W5.recTo data 10000 k).map byteVal) /\ Ext w wr) (fun iv _ => 10000 - (intOf iv).toNat)
 case atStart => exact ⟨0, by omega, rfl, HO.out, HX.out⟩
 case round =>
  obtain ⟨k, hk, rfl, hown, hx⟩ := hrel
  by_cases h0 : data = []
  ·subst h0
   rw [W5.recTo_nil 10000 k hk] at hown
   have HO2 := qh hown
   have HX2 := qh hx
   clear hown hx HO HX
   by_cases hk2 : (k : Int) < 10000
   ·go_wp2
    go_ret
    exact ⟨_, rfl, by rw [HRL.out]; exact HO2.out, HX2.out⟩
   ·go_wp2
    go_ret
    exact ⟨_, rfl, by rw [HRL.out]; exact HO2.out, HX2.out⟩
  ·have hp : 0 < data.length := List.length_pos_iff.2 h0
   have hpi : (0 : Int) < (data.length : Int) := by omega
   by_cases hk2 : k < 10000
   ·have hk2i : (k : Int) < 10000 := by omega
    have hkl : k < (W5.recTo data 10000 k).length := by rw [W5.recTo_len _ _ _ hk]; exact hk2
    have hcell := hown.cellAt k (by rw [Nat.mul_one]; exact hk2)
    rw [List.getElem?_map, List.getElem?_eq_getElem hkl] at hcell
    simp only [Option.map_some] at hcell
    have hfro := hown.frozenAt k
    have hst := (hown.stored k (byteVal (data.getD (k % data.length) 0))).1
    rw [<- List.map_set, W5.recTo_set _ _ _ hk2] at hst
    have hx' := hx.setCell (p := ⟨w.heap.size, k, none⟩) (Nat.le_refl _) (byteVal (data.getD (k % data.length) 0))
    have hmod : k % data.length < data.length := Nat.mod_lt _ hp
    rcases (hb.out.ext hx).open with ⟨_, _, _, h0', _⟩ | ⟨b, off, cap', he, _, _, _, _, hcb⟩
    ·exact absurd h0' h0
    ·obtain ⟨rfl, _, rfl⟩ := Value.slice.inj he
     have hcb2 := hcb (k % data.length) hmod
     have hbv : (Value.int .u8 (data[k % data.length].toNat : Int)) = byteVal (data.getD (k % data.length) 0) := by
      rw [List.getD_eq_getElem?_getD, List.getElem?_eq_getElem hmod]; rfl
     rw [hbv] at hcb2
     have hrem : (k : Int).tmod (data.length : Int) = ((k % data.length : Nat) : Int) := by rw [Int.ofNat_tmod]
     have HST := qh hst
     have HXS := qh hx'
     clear hst hx' hown hx HO HX hb hcb he hbv
     obtain ⟨z, hz⟩ : ∃ z : Int, byteVal (data.getD (k % data.length) 0) = .int .u8 z := ⟨_, rfl⟩
     rw [hz] at HST HXS hcb2
     clear hz
     generalize byteVal (W5.recTo data 10000 k)[k] = u0 at *
     clear hkl
     generalize k % data.length = j at *
     go_wp2
     go_roundw
     case rel => exact ⟨k + 1, by omega, by go_num, HST.out, HXS.out⟩
     case measure => (simp [intOf]; try omega)
   ·obtain rfl : k = 10000 := by omega
    rw [W5.recTo_all] at hown
    have HO2 := qh hown
    have HX2 := qh hx
    clear hown hx HO HX
    go_wp2
    go_ret
    exact ⟨_, rfl, by rw [HRL.out]; exact HO2.out, HX2.out⟩
theorem record_any (v : Value) (data : List UInt8) (size : Int) (w : World) (h : Bs w v data) :
 Calls Tryz.prog 34 #[v, .int .i64 size] w fun e w' => MadeB w w' (W5.record data size) e := by
 unfold W5.record
 by_cases h1 : size < 0
 ·have e : W5.recN size = 0 := by unfold W5.recN; omega
  rw [e]
  exact record_low v data w h size h1
 ·by_cases h2 : 10000 < size
  ·have e : W5.recN size = 10000 := by unfold W5.recN; omega
   rw [e]
   exact record_high v data w h size h2
  ·obtain ⟨n, hn⟩ : ∃ n : Nat, size = (n : Int) := ⟨size.toNat, by omega⟩
   subst hn
   have e : W5.recN (n : Int) = n := by unfold W5.recN; omega
   rw [e]
   exact record_mid v data w h n (by omega)
end Go.Proofs.YtnjfioikpajhlaaGreat
namespace Go.Proofs.YtnjfioikpajhlaaGreat
open Go.RowKit
theorem Reads.shape {w : World} {v : Value} {cs : List Value} (h : Reads w v cs) : ∃ a cap, v = .slice a cs.length cap := let ⟨a, cap, hv, _⟩ := h; ⟨a, cap, hv⟩
theorem Reads.length_le {w : World} {v : Value} {cs : List Value} (h : Reads w v cs) : cs.length <= 9223372036854775807 := by
 obtain ⟨a, cap, hv, h1, h2, _⟩ := h
 unfold maxLen at h2
 omega
theorem Reads.at {w : World} {a : Option Addr} {n cap : Nat} {cs : List Value} (h : Reads w (.slice a n cap) cs) (j : Nat) (hj : j < cs.length) : ∃ b off, a = some ⟨b, off, none⟩ /\ w.cell? ⟨b, off + j, none⟩ = some cs[j] := by
 obtain ⟨a', cap', hv, h1, h2, hn, h3, h4⟩ := h
 obtain ⟨rfl, _, rfl⟩ := Value.slice.inj hv
 rcases h4 with rfl | ⟨b, off, rfl, hc⟩
 ·simp at hj
 ·exact ⟨b, off, rfl, hc j _ (List.getElem?_eq_getElem hj)⟩
def strV (l : List UInt8) : Value := .string ⟨l.toArray⟩
theorem info_str : (Tryz.prog.info? 9).map (fun i => (i.zero, i.size, i.bytes)) = some (some (.string ⟨#[]⟩), 1, 16) := by kernel_rfl
end Go.Proofs.YtnjfioikpajhlaaGreat
