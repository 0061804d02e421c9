import Derived.Test.YtnjfioikpajhlaaProg
import Derived.Test.YtnjfioikpajhlaaMPlain
import Derived.Test.YtnjfioikpajhlaaMBase
/- The walk of jetwayref01.Var. -/
namespace Go.Proofs.Ytnjfioikpajhlaa
open Go.RowKit

set_option maxRecDepth 100000 in
set_option maxHeartbeats 800000 in
theorem refVar (l : List UInt8) (n : Nat) (w : World) (hn : n < 18446744073709551616) (hlen : l.length ≤ 4611686018427387904) :
    Calls Try.prog 51 #[.string ⟨l.toArray⟩, .int .u64 (n : Int)] w fun e w' =>
      e = .returned (.string ⟨(l ++ W.vb n).toArray⟩) ∧ Ext w w' := by
  go_enter Try.func51, Try.ntmps51
  go_wp2
  go_loopw [0, 1] (fun sv nv wr => ∃ m : Nat, ∃ pre : List UInt8, m < 18446744073709551616 ∧ Hid (pre ++ W.vb m = W.vb n) ∧ nv = .int .u64 m ∧ sv = .string ⟨(l ++ pre).toArray⟩ ∧ Ext w wr) (fun _ nv _ => (intOf nv).toNat)
  case atStart => exact ⟨n, [], hn, rfl, rfl, by simp, Ext.refl _⟩
  case round =>
    obtain ⟨m, pre, hm, hp, rfl, rfl, hx⟩ := hrel
    have hv10 := W.vb_len10 n hn
    have hpl : pre.length ≤ 10 := by have := congrArg List.length hp.out; simp at this; omega
    clear hv10
    by_cases h127 : m < 128
    · have hcv := one_string (P := Try.prog) 59 9 5 Try.underlying59 Try.underlying5 Try.underlying9 wr (UInt8.ofNat m) (m : Int) (by rw [W.u8_of]; omega)
      have hfin : Hid (Value.string ((⟨(l ++ pre).toArray⟩ : ByteArray) ++ ⟨#[UInt8.ofNat m]⟩) = .string ⟨(l ++ W.vb n).toArray⟩) := by
        unfold Hid; rw [ba_push, ← hp.out, W.vb_small m h127]; simp
      go_wp2
      go_ret
      exact ⟨congrArg Ending.returned hfin.out, hx.alloc _⟩
    · have hcv := one_string (P := Try.prog) 59 9 5 Try.underlying59 Try.underlying5 Try.underlying9 wr (UInt8.ofNat (m % 128 + 128)) ((m : Int) % 128 + 128) (by rw [W.u8_of]; omega)
      have hp2 : Hid ((pre ++ [UInt8.ofNat (m % 128 + 128)]) ++ W.vb (m / 128) = W.vb n) := by
        unfold Hid; rw [← hp.out, W.vb_more m h127]; simp
      have hstr : Hid (Value.string ((⟨(l ++ pre).toArray⟩ : ByteArray) ++ ⟨#[UInt8.ofNat (m % 128) + 128]⟩) = .string ⟨(l ++ (pre ++ [UInt8.ofNat (m % 128 + 128)])).toArray⟩) := by
        unfold Hid; rw [ba_push]; simp
      go_wp2
      go_roundw
      case rel => exact ⟨m / 128, _, by omega, hp2, by simp, hstr.out, hx.alloc _⟩
      case measure => simp [intOf]; omega
end Go.Proofs.Ytnjfioikpajhlaa
