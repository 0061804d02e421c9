/- jetwaylaw04.Full. -/
import Derived.Test.YtmlancmcgcjodaaProg
import Derived.Test.YtmlancmcgcjodaaBase
import Derived.Test.YtmlancmcgcjodaaB8
namespace Go.Proofs.Ytmlancmcgcjodaa
open Go.RowKit

def D.full (data : List UInt8) : List UInt8 := (List.range 512).map (fun i => data.getD (i % data.length) 0)
theorem full_len (data : List UInt8) : (D.full data).length = 512 := by simp [D.full]
theorem full_nil : D.full [] = List.replicate 512 0 := by
  unfold D.full
  apply List.ext_getElem
  · rw [List.length_map, List.length_range, List.length_replicate]
  · intro i h1 h2
    rw [List.getElem_map, List.getElem_replicate]; rfl
theorem full_get (data : List UInt8) (k : Nat) (h : k < (D.full data).length) : (D.full data)[k] = data.getD (k % data.length) 0 := by simp [D.full]

/-- So far k bytes are laid. -/
def D.fullTo (data : List UInt8) (k : Nat) : List UInt8 := (D.full data).take k ++ List.replicate (512 - k) 0
theorem fullTo_len (data : List UInt8) (k : Nat) (h : k ≤ 512) : (D.fullTo data k).length = 512 := by simp [D.fullTo, full_len]; omega
theorem fullTo_set (data : List UInt8) (k : Nat) (h : k < 512) : (D.fullTo data k).set k (data.getD (k % data.length) 0) = D.fullTo data (k + 1) := by
  have hl : k < (D.full data).length := by rw [full_len]; exact h
  unfold D.fullTo
  have h1 : ((D.full data).take k).length = k := by simp [full_len]; omega
  rw [List.set_append_right _ _ (by omega), h1, Nat.sub_self, List.take_succ_eq_append_getElem hl, full_get]
  have h2 : 512 - k = (512 - (k + 1)) + 1 := by omega
  rw [h2, List.replicate_succ, List.set_cons_zero]
  simp
theorem fullTo_all (data : List UInt8) : D.fullTo data 512 = D.full data := by
  unfold D.fullTo
  rw [List.take_of_length_le (by rw [full_len]; omega)]
  simp

set_option maxRecDepth 100000 in
set_option maxHeartbeats 800000 in
theorem full_any (v : Value) (data : List UInt8) (w : World) (h : Bs w v data) :
    Calls Try.prog 11 #[v] w fun e w' => e = .returned (.slice (some ⟨w.heap.size, 0, none⟩) 512 512) ∧ w'.ownsRow w.heap.size 5 1 (.slice (some ⟨w.heap.size, 0, none⟩) 512 512) 512 ((D.full data).map byteVal) ∧ Ext w w' := by
  obtain ⟨i0, hi0, hz0, hz1, hz2⟩ := info_parts info_u8
  have hb := Lib.hid h
  have hlen := h.length_le
  obtain ⟨a, cap, rfl⟩ := h.shape
  clear h
  go_enter Try.func11, Try.ntmps11
  go_wp2_with (first | (refine wpl_make _ rfl _ _ 31 rfl w.heap.size 5 i0 (.int .u8 0) Try.underlying31 hi0 hz0 hz1 rfl .i64 .i64 512 512 512 512 rfl rfl rfl rfl (by omega) (by omega) (by unfold maxLen; omega) (Nat.le_refl _) ?_; intro w1 hown hx hg) | fail)
  have hown1 : w1.ownsRow w.heap.size 5 1 (.slice (some ⟨w.heap.size, 0, none⟩) 512 512) 512 ((D.fullTo data 0).map byteVal) := by
    have e : (D.fullTo data 0).map byteVal = List.replicate 512 (.int .u8 0) := by simp [D.fullTo, byteVal]
    rw [e]; exact hown
  have HO := Lib.hid hown1
  have HX := Lib.hid hx
  clear hown1 hown hx hg
  go_loopw [4] (fun iv wr => ∃ k : Nat, k ≤ 512 ∧ iv = .int .i64 k ∧ wr.ownsRow w.heap.size 5 1 (.slice (some ⟨w.heap.size, 0, none⟩) 512 512) 512 ((D.fullTo data k).map byteVal) ∧ Ext w wr) (fun iv _ => 512 - (intOf iv).toNat)
  case atStart => exact ⟨0, by omega, rfl, HO.out, HX.out⟩
  case round =>
    obtain ⟨k, hk, rfl, hown, hx⟩ := hrel
    by_cases h0 : data = []
    · subst h0
      have he : (D.fullTo [] k) = D.full [] := by
        unfold D.fullTo
        rw [full_nil, List.take_replicate, List.replicate_append_replicate]
        congr 1; omega
      rw [he] at hown
      have HO2 := Lib.hid hown
      have HX2 := Lib.hid hx
      clear hown hx HO HX
      by_cases hk2 : (k : Int) < 512
      · go_wp2
        go_ret
        exact ⟨rfl, HO2.out, HX2.out⟩
      · go_wp2
        go_ret
        exact ⟨rfl, HO2.out, HX2.out⟩
    · have hp : 0 < data.length := List.length_pos_iff.2 h0
      have hpi : (0 : Int) < (data.length : Int) := by omega
      by_cases hk2 : k < 512
      · have hkl : k < (D.fullTo data k).length := by rw [fullTo_len _ _ hk]; exact hk2
        have hcell := hown.cellAt k hk2
        rw [List.getElem?_map, List.getElem?_eq_getElem hkl] at hcell
        simp only [Option.map_some] at hcell
        have hfro := hown.frozenAt k
        have hst := (hown.stored k (byteVal (data.getD (k % data.length) 0))).1
        rw [← List.map_set, fullTo_set _ _ hk2] at hst
        have hx' := hx.setCell (p := ⟨w.heap.size, k, none⟩) (Nat.le_refl _) (byteVal (data.getD (k % data.length) 0))
        have hmod : k % data.length < data.length := Nat.mod_lt _ hp
        rcases (hb.out.ext hx).open with ⟨_, _, _, h0', _⟩ | ⟨b, off, cap', he, _, _, _, _, hcb⟩
        · exact absurd h0' h0
        · obtain ⟨rfl, _, rfl⟩ := Value.slice.inj he
          have hcb2 := hcb (k % data.length) hmod
          have hbv : (Value.int .u8 (data[k % data.length].toNat : Int)) = byteVal (data.getD (k % data.length) 0) := by
            rw [List.getD_eq_getElem?_getD, List.getElem?_eq_getElem hmod]; rfl
          rw [hbv] at hcb2
          have hrem : (k : Int).tmod (data.length : Int) = ((k % data.length : Nat) : Int) := by rw [Int.ofNat_tmod]
          have HST := Lib.hid hst
          have HXS := Lib.hid hx'
          clear hst hx' hown hx HO HX hb hcb he hbv
          obtain ⟨z, hz⟩ : ∃ z : Int, byteVal (data.getD (k % data.length) 0) = .int .u8 z := ⟨_, rfl⟩
          rw [hz] at HST HXS hcb2
          clear hz
          generalize byteVal (D.fullTo data k)[k] = u0 at *
          clear hkl
          generalize k % data.length = j at *
          go_wp2
          go_roundw
          case rel => exact ⟨k + 1, by omega, by go_num, HST.out, HXS.out⟩
          case measure => (simp [intOf]; try omega)
      · obtain rfl : k = 512 := by omega
        rw [fullTo_all] at hown
        have HO2 := Lib.hid hown
        have HX2 := Lib.hid hx
        clear hown hx HO HX
        go_wp2
        go_ret
        exact ⟨rfl, HO2.out, HX2.out⟩
end Go.Proofs.Ytmlancmcgcjodaa
