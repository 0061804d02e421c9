/- wal: the pieces of a record are written. -/
import Derived.Test.YtmcmocakfhedfaaWalF
namespace Go.Proofs.Ytmcmocakfhedfaa
open Go.RowKit

namespace W5
/-- k pieces of a record are written from sector s on. -/
def layTo (d : D.Dsk) (gen record s : Nat) (b : List UInt8) : Nat → D.Dsk × Int
  | 0 => (d, 0)
  | k + 1 => if (layTo d gen record s b k).2 = 0 then (D.write (layTo d gen record s b k).1 ((s + k : Nat) : Int) (piece gen record k b), D.writeE (layTo d gen record s b k).1 ((s + k : Nat) : Int) (piece gen record k b)) else layTo d gen record s b k
def lay (d : D.Dsk) (gen record at_ : Nat) (b : List UInt8) : D.Dsk × Int := layTo d gen record (areaAt d gen + at_) b (need b.length)
theorem write_n (d : D.Dsk) (i : Int) (s : List UInt8) : (D.write d i s).n = d.n := by
  unfold D.write
  split
  · rfl
  · split
    · rfl
    · split
      · rfl
      · unfold D.goes; split <;> (try split) <;> rfl
theorem write_wait (d : D.Dsk) (i : Int) (s : List UInt8) : (D.write d i s).wait.length ≤ d.wait.length + 1 := by
  unfold D.write
  split
  · exact Nat.le_succ _
  · split
    · exact Nat.le_succ _
    · split
      · exact Nat.le_succ _
      · show (d.wait ++ [(i, s)]).length ≤ _
        rw [List.length_append]; exact Nat.le_refl _
theorem layTo_n (d : D.Dsk) (gen record s : Nat) (b : List UInt8) : ∀ k, (layTo d gen record s b k).1.n = d.n
  | 0 => rfl
  | k + 1 => by
    unfold layTo
    split
    · exact (write_n _ _ _).trans (layTo_n d gen record s b k)
    · exact layTo_n d gen record s b k
theorem layTo_wait (d : D.Dsk) (gen record s : Nat) (b : List UInt8) : ∀ k, (layTo d gen record s b k).1.wait.length ≤ d.wait.length + k
  | 0 => Nat.le_refl _
  | k + 1 => by
    have h := layTo_wait d gen record s b k
    unfold layTo
    split
    · exact Nat.le_trans (write_wait _ _ _) (by omega)
    · omega
theorem layTo_stop (d : D.Dsk) (gen record s : Nat) (b : List UInt8) (k : Nat) (h : (layTo d gen record s b k).2 ≠ 0) : ∀ j, k ≤ j → layTo d gen record s b j = layTo d gen record s b k := by
  intro j hj
  induction j with
  | zero => obtain rfl : k = 0 := by omega
            rfl
  | succ j ih =>
    rcases Nat.lt_or_ge j k with h2 | h2
    · obtain rfl : k = j + 1 := by omega
      rfl
    · have h3 := ih h2
      rw [← h3] at h
      rw [← h3]
      show (if _ then _ else _) = _
      rw [if_neg h]
end W5

section
variable {w0 w wa w1 : World} {X : Nat → Prop} {p q : Nat} {d : D.Dsk}
/-- A sector that has just been made is written. -/
theorem held_write_made (h : Held w0 w X p d) (hxa : Ext w wa) (hx : Ext wa w1) (i : Int) (v : Value) (s : List UInt8) (hs : w1.ownsRow wa.heap.size 5 1 v s.length (s.map byteVal)) (hw : d.wait.length ≤ 1073741824) :
    Calls Try.prog 25 #[.pointer (some ⟨p, 0, none⟩), .int .i64 i, v] w1 fun e w' => e = .returned (.int .i64 (D.writeE d i s)) ∧ Step w0 w w' X p (D.write d i s) := by
  refine (held_write h (hxa.trans hx) i v s (Bs.of_own hs) (fun k hk => .inr ?_) hw).mono ?_
  · have h1 := hs.lt k hk
    have h2 := hxa.size
    exact ⟨by omega, h1.2⟩
  · rintro e w' ⟨he, h1, h2⟩
    exact ⟨he, h1, (Keeps.of_ext (hxa.trans hx)).trans h2⟩
set_option maxRecDepth 100000 in
set_option maxHeartbeats 3200000 in
theorem lay_any (h : Held w0 w X p d) (hq : w.cell? ⟨q, 0, none⟩ = some (.pointer (some ⟨p, 0, none⟩))) (hqX : X q) (gen record at_ : Nat) (v : Value) (b : List UInt8) (hb : Bs w v b) (hbX : ∀ k, v.ownBlock = some k → X k)
    (hg : gen < 4294967296) (hr : record < 4294967296) (hat : at_ ≤ 4096) (hbl : b.length ≤ 8192) (hwl : d.wait.length ≤ 1073700000) :
    Calls Try.prog 42 #[.pointer (some ⟨q, 0, none⟩), .int .u32 (gen : Int), .int .i64 (record : Int), .int .i64 (at_ : Int), v] w fun e w' => e = .returned (.int .i64 (W5.lay d gen record at_ b).2) ∧ Step w0 w w' X p (W5.lay d gen record at_ b).1 := by
  have HD := Lib.hid h
  have HQ := Lib.hid hq
  have HB := Lib.hid hb
  have HBX := Lib.hid hbX
  have hok := h.okd
  have hn2 := hok.n2
  have hal := W5.area_le d hn2
  have haa : W5.areaAt d gen ≤ 2049 := by
    have e : W5.areaAt d gen = 2 + gen % 2 * W5.area d := rfl
    rw [e]
    have : gen % 2 = 0 ∨ gen % 2 = 1 := by omega
    rcases this with h4 | h4 <;> rw [h4] <;> omega
  have hbi : (b.length : Int) ≤ 8192 := by omega
  have hgi : (gen : Int) < 4294967296 := by omega
  have hri : (record : Int) < 4294967296 := by omega
  have hati : (at_ : Int) ≤ 4096 := by omega
  obtain ⟨a, cap, rfl⟩ := hb.shape
  clear h hq hb hbX hal hok hn2
  unfold W5.lay
  have hnd := need_17 b.length hbl
  have hne : ∀ w, Calls Try.prog 11 #[.int .i64 (b.length : Int)] w fun e w' => e = .returned (.int .i64 (W5.need b.length : Int)) ∧ w = w' := by
    intro w
    refine (need_any (b.length : Int) w (by omega) (by omega)).mono ?_
    rintro e w1 ⟨rfl, rfl⟩
    rw [W5.need_nat]
    exact ⟨rfl, rfl⟩
  have HNE := Lib.hid hne
  clear hne
  generalize hN : W5.need b.length = N at *
  have HN := Lib.hid hN
  clear hN
  generalize hZ : W5.areaAt d gen = Z at *
  have HZ := Lib.hid hZ
  clear hZ
  generalize hT : Z + at_ = T at *
  go_enter Try.func42, Try.ntmps42
  go_wp2_with fail
  refine (HNE.out _).mono ?_
  rintro e w5 ⟨rfl, rfl⟩
  go_wp2
  go_loopw [16] (fun iv wr => ∃ k : Nat, k ≤ N ∧ iv = .int .i64 (k : Int) ∧ Hid (Step w0 w wr X p (W5.layTo d gen record T b k).1) ∧ Hid ((W5.layTo d gen record T b k).2 = 0)) (fun iv _ => N - (intOf iv).toNat)
  case atStart => exact ⟨0, by omega, rfl, ⟨HD.out, Keeps.refl _ _⟩, rfl⟩
  case round =>
    obtain ⟨k, hk, rfl, hst, he⟩ := hrel
    by_cases hlt : k < N
    · have hlti : (k : Int) < (N : Int) := by omega
      have hdn : (W5.layTo d gen record T b k).1.n = d.n := W5.layTo_n _ _ _ _ _ _
      have hdw := W5.layTo_wait d gen record T b k
      have hsu : W5.layTo d gen record T b (k + 1) = (D.write (W5.layTo d gen record T b k).1 ((T + k : Nat) : Int) (W5.piece gen record k b), D.writeE (W5.layTo d gen record T b k).1 ((T + k : Nat) : Int) (W5.piece gen record k b)) := if_pos he.out
      generalize hDk : W5.layTo d gen record T b k = DK at *
      have hla := fun (w' : World) (hx2 : Ext wr w') => larea_any (hst.out.1.after_ext hx2) (Ext.cell hx2 (hst.out.2.cell HQ.out hqX)) gen hg
      have hza : W5.areaAt DK.1 gen = Z := by rw [← HZ.out]; unfold W5.areaAt W5.area; rw [hdn]
      rw [hza] at hla
      have hpa := fun (w' : World) (hx2 : Ext wr w') => piece_any gen record k (.slice a b.length cap) b w' hg hr (by omega) ((hst.out.2.bs HB.out HBX.out).ext hx2) hbl (by rw [HN.out]; exact hlt)
      unfold MadeB at hpa
      have hwm := fun (wa w1 : World) (v : Value) (hxa : Ext wr wa) (hx : Ext wa w1) (hs : w1.ownsRow wa.heap.size 5 1 v (W5.piece gen record k b).length ((W5.piece gen record k b).map byteVal)) => held_write_made hst.out.1 hxa hx ((T + k : Nat) : Int) v _ hs (by omega)
      have hkp := Lib.hid hst.out.2
      have hx0 := Ext.of_drew wr
      have hqp := hst.out.2.cell HQ.out hqX
      have hw1 : IntKind.i64.wrap ((Z : Int) + (at_ : Int)) = (T : Int) := by rw [IntKind.wrap_i64]; omega
      have hw2 : IntKind.i64.wrap ((T : Int) + (k : Int)) = ((T + k : Nat) : Int) := by rw [IntKind.wrap_i64]; omega
      go_wp2_with fail
      go_region_held3 (fun w' => w'.cell? ⟨q, 0, none⟩ = some (.pointer (some ⟨p, 0, none⟩))) (first | exact Ext.cell hx0 hqp | exact Ext.cell hx6 (Ext.cell hx0 hqp) | exact Keeps.cell hst7.2 hqp hqX) (first
        | (go_at_call 65; refine (hla _ (by first | exact hx0 | exact Ext.trans hx0 hx6)).mono ?_; rintro e w5 ⟨rfl, rfl⟩)
        | (go_at_call 66; refine (hpa _ hx0).mono ?_; rintro e w6 ⟨v6, rfl, hown6, hx6⟩)
        | (go_at_call 25; refine (hwm _ _ _ hx0 hx6 hown6).mono ?_; rintro e w7 ⟨rfl, hst7⟩))
      rw [Int.natCast_add] at hsu hst7
      generalize hE : D.writeE DK.1 ((T : Int) + (k : Int)) (W5.piece gen record k b) = E at *
      generalize hD2 : D.write DK.1 ((T : Int) + (k : Int)) (W5.piece gen record k b) = D2 at *
      have HST := Lib.hid hst7
      have HSU := Lib.hid hsu
      clear hst7 hsu hE hD2 hst hla hpa hwm hqp hx0 hx6 hown6
      by_cases hz : E = 0
      · subst hz
        have h1 : Hid (Step w0 w w7 X p (W5.layTo d gen record T b (k + 1)).1) := by
          unfold Hid; rw [HSU.out]; exact ⟨HST.out.1, hkp.out.trans HST.out.2⟩
        have h2 : Hid ((W5.layTo d gen record T b (k + 1)).2 = 0) := by unfold Hid; rw [HSU.out]
        go_wp2
        go_roundw
        case rel => exact ⟨k + 1, by omega, by go_num, h1, h2⟩
        case measure => (simp [intOf]; try omega)
      · have hfin : Hid (W5.layTo d gen record T b N = (D2, E)) := by
          unfold Hid
          rw [W5.layTo_stop d gen record T b (k + 1) (by rw [HSU.out]; exact hz) N (by omega)]; exact HSU.out
        have hz2 : (E != 0) = true := by rw [bne_iff_ne]; exact hz
        clear hz
        go_wp2
        go_ret
        rw [hfin.out]
        exact ⟨rfl, HST.out.1, hkp.out.trans HST.out.2⟩
    · obtain rfl : k = N := by omega
      go_wp2
      go_ret
      rw [he.out]
      exact ⟨rfl, hst.out⟩
end
end Go.Proofs.Ytmcmocakfhedfaa
