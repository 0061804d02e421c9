/- The walk of jetwaylaw01.long; how a law's byte slices are opened. -/
import Derived.Test.YtnbadeaiocandaaProg
import Derived.Test.YtnbadeaiocandaaBase
import Derived.OpenShut
namespace Go.Proofs.Ytnbadeaiocandaa
open Go.RowKit Go.ChangeShapes Go.WideShapes Go.ChangeAt

theorem wf_u64 {n : Int} (h : (Lit.int .u64 n).wf = true) : 0 ≤ n ∧ n < 18446744073709551616 := by
  simp [Lit.wf, IntKind.min, IntKind.max, IntKind.bits, IntKind.signed] at h; omega
theorem wf_i64 {n : Int} (h : (Lit.int .i64 n).wf = true) : -9223372036854775808 ≤ n ∧ n ≤ 9223372036854775807 := by
  simp [Lit.wf, IntKind.min, IntKind.max, IntKind.bits, IntKind.signed] at h; omega
theorem wf_u8 {n : Int} (h : (Lit.int .u8 n).wf = true) : 0 ≤ n ∧ n < 256 := by
  simp [Lit.wf, IntKind.min, IntKind.max, IntKind.bits, IntKind.signed] at h; omega

theorem bs_of_row {W : World} {x : Addr} {len cap : Nat} {zs : List Int} (hl : len ≤ cap) (hm : cap ≤ maxLen) (hz : zs.length = cap)
    (hcell : ∀ i, i < zs.length → W.cell? (x.add i) = some (.int .u8 (zs.getD i 0))) (hwz : ∀ n ∈ zs, (Lit.int .u8 n).wf = true) : ∃ l, Bs W (.slice (some x) len cap) l ∧ l.length = len := by
  obtain ⟨b, off, spot⟩ := x
  have hlen : ((zs.take len).map (fun n => UInt8.ofNat n.toNat)).length = len := by simp; omega
  refine ⟨(zs.take len).map (fun n => UInt8.ofNat n.toNat), ⟨some ⟨b, off, spot⟩, cap, by rw [List.length_map, hlen], by rw [List.length_map, hlen]; exact hl, hm, by simp, bytes_one _, ?_⟩, hlen⟩
  by_cases h0 : len = 0
  · left; subst h0; simp
  · right
    have hc0 := hcell 0 (by omega)
    have hs : spot = none := by simpa [Addr.add] using World.cell?_spot hc0
    subst hs
    refine ⟨b, off, rfl, fun j u hj => ?_⟩
    have hj' : j < len := by
      have := (List.getElem?_eq_some_iff.1 hj).1
      simp at this; omega
    have h := hcell j (by omega)
    rw [Addr.add_lit] at h
    rw [h]
    have hjz : j < zs.length := by omega
    have hw : (Lit.int .u8 zs[j]).wf = true := hwz _ (List.getElem_mem hjz)
    have hb : 0 ≤ zs[j] ∧ zs[j] < 256 := by
      simp [Lit.wf, IntKind.min, IntKind.max, IntKind.bits, IntKind.signed] at hw; omega
    have e : u = byteVal (UInt8.ofNat zs[j].toNat) := by
      simp [List.getElem?_take, hj', hjz] at hj
      exact hj.symm
    rw [e]
    unfold byteVal
    have e2 : ((UInt8.ofNat zs[j].toNat).toNat : Int) = zs[j] := by simp; omega
    rw [e2]
    simp [List.getD, hjz]

set_option maxRecDepth 100000 in
theorem long_any (v : Value) (l : List UInt8) (w : World) (h : Bs w v l) :
    Calls Try.prog 11 #[v] w fun e w' => e = .returned (.bool (decide (20000 < l.length))) ∧ w = w' := by
  obtain ⟨a, cap, rfl⟩ := h.shape
  clear h
  by_cases hl : (20000 : Int) < (l.length : Int)
  · have h2 : decide (20000 < l.length) = true := by simp; omega
    rw [h2]
    clear h2
    have hb : decide ((20000 : Int) < (l.length : Int)) = true := by simp; omega
    go_enter Try.func11, Try.ntmps11
    go_wp2
    go_ret
    exact ⟨by first | rfl | (simp; omega), rfl⟩
  · have h2 : decide (20000 < l.length) = false := by simp; omega
    rw [h2]
    clear h2
    have hb : decide ((20000 : Int) < (l.length : Int)) = false := by simp; omega
    go_enter Try.func11, Try.ntmps11
    go_wp2
    go_ret
    exact ⟨by first | rfl | (simp; omega), rfl⟩
end Go.Proofs.Ytnbadeaiocandaa
