/- wal: a generation is begun. -/
import Derived.Test.YtmcmocakfhedfaaWalG
namespace Go.Proofs.Ytmcmocakfhedfaa
open Go.RowKit

/-- The slice of slices v reads as the byte lists ls, all in the blocks X. -/
def RowsX (w : World) (X : Nat → Prop) (v : Value) (ls : List (List UInt8)) : Prop :=
  ∃ vs, Reads w v vs ∧ vs.length = ls.length ∧ (∀ k, v.ownBlock = some k → X k) ∧ ∀ i (h : i < ls.length), ∃ u, vs[i]? = some u ∧ Bs w u ls[i] ∧ ∀ k, u.ownBlock = some k → X k
theorem RowsX.nil (w : World) (X : Nat → Prop) : RowsX w X (.slice none 0 0) [] := ⟨[], Reads.nil w, rfl, (fun k h => by simp [Value.ownBlock] at h), fun i h => absurd h (Nat.not_lt_zero i)⟩
theorem RowsX.ext {w w' : World} {X : Nat → Prop} {v : Value} {ls : List (List UInt8)} (h : RowsX w X v ls) (he : Ext w w') : RowsX w' X v ls := by
  obtain ⟨vs, h1, h2, h3, h4⟩ := h
  exact ⟨vs, h1.ext he, h2, h3, fun i hi => let ⟨u, a, b, c⟩ := h4 i hi; ⟨u, a, b.ext he, c⟩⟩
theorem RowsX.keeps {w w' : World} {X : Nat → Prop} {v : Value} {ls : List (List UInt8)} (h : RowsX w X v ls) (he : Keeps X w w') : RowsX w' X v ls := by
  obtain ⟨vs, h1, h2, h3, h4⟩ := h
  exact ⟨vs, he.reads h1 h3, h2, h3, fun i hi => let ⟨u, a, b, c⟩ := h4 i hi; ⟨u, a, he.bs b c, c⟩⟩
theorem RowsX.mono {w : World} {X Y : Nat → Prop} {v : Value} {ls : List (List UInt8)} (h : RowsX w X v ls) (hXY : ∀ k, X k → Y k) : RowsX w Y v ls := by
  obtain ⟨vs, h1, h2, h3, h4⟩ := h
  exact ⟨vs, h1, h2, fun k hk => hXY k (h3 k hk), fun i hi => let ⟨u, a, b, c⟩ := h4 i hi; ⟨u, a, b, fun k hk => hXY k (c k hk)⟩⟩
theorem RowsX.shape {w : World} {X : Nat → Prop} {v : Value} {ls : List (List UInt8)} (h : RowsX w X v ls) : ls.length ≤ 9223372036854775807 ∧ ∃ a cap, v = .slice a ls.length cap ∧ ∀ i (h : i < ls.length), ∃ b off, a = some ⟨b, off, none⟩ ∧ X b ∧ ∃ u, w.cell? ⟨b, off + i, none⟩ = some u ∧ Bs w u ls[i] ∧ (∀ k, u.ownBlock = some k → X k) := by
  obtain ⟨vs, ⟨a, cap, hv, h1, h2, hn, h3, h4⟩, hl, hvX, hr⟩ := h
  unfold maxLen at h2
  rw [hl] at hv h1
  refine ⟨by omega, a, cap, hv, fun i hi => ?_⟩
  rcases h4 with h4 | ⟨b, off, rfl, hc⟩
  · subst h4; simp at hl; omega
  · obtain ⟨u, hu, hb, hx⟩ := hr i hi
    exact ⟨b, off, rfl, hvX b (by rw [hv]; rfl), u, hc i u hu, hb, hx⟩

namespace W5
def usedTo (l : List (List UInt8)) (k : Nat) : Nat := ((l.take k).map (fun b => need b.length)).sum
def used (l : List (List UInt8)) : Nat := (l.map (fun b => need b.length)).sum
theorem usedTo_succ (l : List (List UInt8)) (k : Nat) (h : k < l.length) : usedTo l (k + 1) = usedTo l k + need l[k].length := by
  unfold usedTo
  rw [List.take_succ_eq_append_getElem h, List.map_append, List.sum_append]
  simp
theorem usedTo_all (l : List (List UInt8)) : usedTo l l.length = used l := by unfold usedTo used; rw [List.take_length]
theorem usedTo_le (l : List (List UInt8)) (k : Nat) : usedTo l k ≤ used l := by
  have h : used l = usedTo l k + ((l.drop k).map (fun b => need b.length)).sum := by
    unfold used usedTo
    rw [← List.sum_append, ← List.map_append, List.take_append_drop]
  omega
theorem len_le_used (l : List (List UInt8)) : l.length ≤ used l := by
  induction l with
  | nil => exact Nat.zero_le _
  | cons b l ih =>
    have h1 := need_pos b.length
    have : used (b :: l) = need b.length + used l := rfl
    rw [this, List.length_cons]; omega
/-- k records are written. -/
def begTo (d : D.Dsk) (gen : Nat) (l : List (List UInt8)) : Nat → D.Dsk × Int
  | 0 => (d, 0)
  | k + 1 => if (begTo d gen l k).2 = 0 then lay (begTo d gen l k).1 gen k (usedTo l k) (l.getD k []) else begTo d gen l k
theorem begTo_stop (d : D.Dsk) (gen : Nat) (l : List (List UInt8)) (k : Nat) (h : (begTo d gen l k).2 ≠ 0) : ∀ j, k ≤ j → begTo d gen l j = begTo d gen l k := by
  intro j hj
  induction j with
  | zero => obtain rfl : k = 0 := by omega
            rfl
  | succ j ih =>
    rcases Nat.lt_or_ge j k with h2 | h2
    · obtain rfl : k = j + 1 := by omega
      rfl
    · have h3 := ih h2
      rw [← h3] at h
      rw [← h3]
      show (if _ then _ else _) = _
      rw [if_neg h]
theorem lay_wait (d : D.Dsk) (gen record at_ : Nat) (b : List UInt8) : (lay d gen record at_ b).1.wait.length ≤ d.wait.length + need b.length := layTo_wait _ _ _ _ _ _
theorem lay_n (d : D.Dsk) (gen record at_ : Nat) (b : List UInt8) : (lay d gen record at_ b).1.n = d.n := layTo_n _ _ _ _ _ _
theorem begTo_n (d : D.Dsk) (gen : Nat) (l : List (List UInt8)) : ∀ k, (begTo d gen l k).1.n = d.n
  | 0 => rfl
  | k + 1 => by
    unfold begTo
    split
    · exact (lay_n _ _ _ _ _).trans (begTo_n d gen l k)
    · exact begTo_n d gen l k
theorem begTo_wait (d : D.Dsk) (gen : Nat) (l : List (List UInt8)) : ∀ k, k ≤ l.length → (begTo d gen l k).1.wait.length ≤ d.wait.length + usedTo l k
  | 0, _ => Nat.le_add_right _ _
  | k + 1, hk => by
    have h := begTo_wait d gen l k (by omega)
    have h2 := usedTo_succ l k hk
    have h3 : l.getD k [] = l[k] := by rw [List.getD_eq_getElem?_getD, List.getElem?_eq_getElem hk]; rfl
    unfold begTo
    split
    · refine Nat.le_trans (lay_wait _ _ _ _ _) ?_
      rw [h3]; omega
    · omega
def begin_ (d : D.Dsk) (gen : Nat) (l : List (List UInt8)) : D.Dsk × Int :=
  if (begTo d gen l l.length).2 = 0 then
    if D.flushE (begTo d gen l l.length).1 = 0 then
      if D.writeE (D.flush (begTo d gen l l.length).1) ((gen % 2 : Nat) : Int) (head gen) = 0 then
        (D.flush (D.write (D.flush (begTo d gen l l.length).1) ((gen % 2 : Nat) : Int) (head gen)), D.flushE (D.write (D.flush (begTo d gen l l.length).1) ((gen % 2 : Nat) : Int) (head gen)))
      else (D.write (D.flush (begTo d gen l l.length).1) ((gen % 2 : Nat) : Int) (head gen), D.writeE (D.flush (begTo d gen l l.length).1) ((gen % 2 : Nat) : Int) (head gen))
    else (D.flush (begTo d gen l l.length).1, D.flushE (begTo d gen l l.length).1)
  else begTo d gen l l.length
end W5

section
variable {w0 w wa w1 : World} {X : Nat → Prop} {p q : Nat} {d : D.Dsk}
set_option maxRecDepth 100000 in
set_option maxHeartbeats 3200000 in
theorem begin_any (h : Held w0 w X p d) (hq : w.cell? ⟨q, 0, none⟩ = some (.pointer (some ⟨p, 0, none⟩))) (hqX : X q) (gen : Nat) (hq1 : w.cell? ⟨q, 1, none⟩ = some (.int .u32 (gen : Int))) (hg : gen + 1 < 4294967296)
    (v : Value) (ls : List (List UInt8)) (hv : RowsX w X v ls) (hls : ∀ b ∈ ls, b.length ≤ 8192) (hu : W5.used ls ≤ 2047) (hwl : d.wait.length ≤ 1073600000) :
    Calls Try.prog 56 #[.pointer (some ⟨q, 0, none⟩), v] w fun e w' => e = .returned (.int .i64 (W5.begin_ d (gen + 1) ls).2) ∧ Step w0 w w' X p (W5.begin_ d (gen + 1) ls).1 := by
  have HD := Lib.hid h
  have HQ := Lib.hid hq
  have HQ1 := Lib.hid hq1
  have HV := Lib.hid hv
  have HLS := Lib.hid hls
  obtain ⟨hll, a, cap, rfl, hcell⟩ := hv.shape
  have HC := Lib.hid hcell
  have hlu := W5.len_le_used ls
  clear hv h hq hls hcell
  have hgi : (gen : Int) + 1 < 4294967296 := by omega
  go_enter Try.func56, Try.ntmps56
  go_wp2
  go_loopw [6, 19] (fun av iv wr => ∃ k : Nat, k ≤ ls.length ∧ iv = .int .i64 (k : Int) ∧ av = .int .i64 (W5.usedTo ls k : Int) ∧ Hid (Step w0 w wr X p (W5.begTo d (gen + 1) ls k).1) ∧ Hid ((W5.begTo d (gen + 1) ls k).2 = 0)) (fun _ iv _ => ls.length - (intOf iv).toNat)
  case atStart => exact ⟨0, by omega, rfl, rfl, ⟨HD.out, Keeps.refl _ _⟩, rfl⟩
  case round =>
    obtain ⟨k, hk, rfl, rfl, hst, he⟩ := hrel
    have hulk := W5.usedTo_le ls k
    by_cases hlt : k < ls.length
    · have hlti : (k : Int) < (ls.length : Int) := by omega
      obtain ⟨b, off, rfl, hbX, u, hcu, hbu, huX⟩ := HC.out k hlt
      obtain ⟨a', cap', rfl⟩ := hbu.shape
      have hcu2 := hst.out.2.cell hcu hbX
      have hgd : ls.getD k [] = ls[k] := by rw [List.getD_eq_getElem?_getD, List.getElem?_eq_getElem hlt]; rfl
      have hus := W5.usedTo_succ ls k hlt
      have hsu : W5.begTo d (gen + 1) ls (k + 1) = W5.lay (W5.begTo d (gen + 1) ls k).1 (gen + 1) k (W5.usedTo ls k) ls[k] := by rw [← hgd]; exact if_pos he.out
      have hdw := W5.begTo_wait d (gen + 1) ls k hk
      have hlb := HLS.out ls[k] (List.getElem_mem hlt)
      have hla := lay_any hst.out.1 (hst.out.2.cell HQ.out hqX) hqX (gen + 1) k (W5.usedTo ls k) _ ls[k] (hst.out.2.bs hbu huX) huX (by omega) (by omega) (by omega) hlb (by omega)
      rw [show ((gen + 1 : Nat) : Int) = (gen : Int) + 1 from rfl] at hla
      have HLA := Lib.hid hla
      have HSU := Lib.hid hsu
      have HKP := Lib.hid hst.out.2
      have hne := need_any (ls[k].length : Int)
      rw [W5.need_nat] at hne
      have hnp := need_17 ls[k].length hlb
      have hulk2 := W5.usedTo_le ls (k + 1)
      clear hla hsu hst he hbu huX hcu hgd
      generalize W5.begTo d (gen + 1) ls k = DK at *
      generalize hLB : ls[k] = LB at *
      have HUS := Lib.hid hus
      generalize hUK : W5.usedTo ls k = U at *
      have hUi : (U : Int) ≤ 2047 := by omega
      have hlbi : (LB.length : Int) ≤ 8192 := by omega
      clear hLB hUK hus
      go_wp2_with fail
      refine HLA.out.mono ?_
      clear HLA
      rintro e w5 ⟨rfl, hst5⟩
      have HST := Lib.hid hst5
      clear hst5
      generalize hE : W5.lay DK.1 (gen + 1) k U LB = DE at *
      clear hE
      obtain ⟨D2, E⟩ := DE
      by_cases hz : E = 0
      · subst hz
        have h1 : Hid (Step w0 w w5 X p (W5.begTo d (gen + 1) ls (k + 1)).1) := by
          unfold Hid; rw [HSU.out]; exact ⟨HST.out.1, HKP.out.trans HST.out.2⟩
        have h2 : Hid ((W5.begTo d (gen + 1) ls (k + 1)).2 = 0) := by unfold Hid; rw [HSU.out]
        go_wp2_with fail
        refine (hne w5 (by omega) (by omega)).mono ?_
        rintro e w6 ⟨rfl, rfl⟩
        generalize W5.need LB.length = N at *
        have hNi : (N : Int) ≤ 17 := by omega
        clear hne
        go_wp2
        go_roundw
        case rel => exact ⟨k + 1, by omega, by go_num, by rw [HUS.out]; rfl, h1, h2⟩
        case measure => (simp [intOf]; try omega)
      · have hfin : Hid (W5.begin_ d (gen + 1) ls = (D2, E)) := by
          unfold Hid W5.begin_
          rw [W5.begTo_stop d (gen + 1) ls (k + 1) (by rw [HSU.out]; exact hz) ls.length (by omega), HSU.out, if_neg hz]
        have hz2 : (E != 0) = true := by rw [bne_iff_ne]; exact hz
        clear hz hne
        go_wp2
        go_ret
        rw [hfin.out]
        exact ⟨rfl, HST.out.1, HKP.out.trans HST.out.2⟩
    · obtain rfl : k = ls.length := by omega
      have HBG := Lib.hid (show W5.begin_ d (gen + 1) ls = _ from by unfold W5.begin_; rw [if_pos he.out])
      have hdw := W5.begTo_wait d (gen + 1) ls ls.length (by omega)
      have hqr := hst.out.2.cell HQ.out hqX
      have HST := Lib.hid hst.out
      clear hst he HC
      generalize (W5.begTo d (gen + 1) ls ls.length).1 = D1 at *
      have hfl := held_flush HST.out.1
      have HFL := Lib.hid hfl
      clear hfl
      go_wp2_with fail
      refine HFL.out.mono ?_
      clear HFL
      rintro e w5 ⟨rfl, hst5⟩
      have HST5 := Lib.hid (show Step w0 w w5 X p _ from ⟨hst5.1, HST.out.2.trans hst5.2⟩)
      clear hst5 HST hqr
      generalize hF : D.flushE D1 = F at *
      have hfw : (D.flush D1).wait.length ≤ D1.wait.length := by
        unfold D.flush D.goes
        split <;> (try split) <;> (try split) <;> simp
      generalize D.flush D1 = D2 at *
      by_cases hz : F = 0
      · subst hz
        rw [if_pos rfl] at HBG
        obtain ⟨r, hr⟩ : ∃ r, r = (gen + 1) % 2 := ⟨_, rfl⟩
        have htm : ((gen : Int) + 1).tmod 2 = (r : Int) := by rw [hr, show (gen : Int) + 1 = ((gen + 1 : Nat) : Int) from rfl, Int.ofNat_tmod]; rfl
        have hr2 : (r : Int) ≤ 1 := by omega
        have hwr : IntKind.i64.wrap (r : Int) = (r : Int) := by rw [IntKind.wrap_i64]; omega
        rw [← hr] at HBG
        clear hr
        have hhe := fun (w' : World) => head_any (gen + 1) w' hg
        unfold MadeB at hhe
        rw [show ((gen + 1 : Nat) : Int) = (gen : Int) + 1 from rfl] at hhe
        have hwm := fun (wa w1 : World) (v : Value) (hxa : Ext w5 wa) (hx : Ext wa w1) (hs : w1.ownsRow wa.heap.size 5 1 v (W5.head (gen + 1)).length ((W5.head (gen + 1)).map byteVal)) => held_write_made HST5.out.1 hxa hx (r : Int) v _ hs (by omega)
        have hx0 := Ext.of_drew w5
        have hqp := HST5.out.2.cell HQ.out hqX
        have hkp := Lib.hid HST5.out.2
        generalize W5.head (gen + 1) = HE at *
        go_wp2_with fail
        go_region_held3 (fun w' => w'.cell? ⟨q, 0, none⟩ = some (.pointer (some ⟨p, 0, none⟩))) (first | exact Ext.cell hx0 hqp | exact Ext.cell hx6 (Ext.cell hx0 hqp) | exact Keeps.cell hst7.2 hqp hqX) (first
          | (go_at_call 69; refine (hhe _).mono ?_; rintro e w6 ⟨v6, rfl, hown6, hx6⟩)
          | (go_at_call 25; refine (hwm _ _ _ hx0 hx6 hown6).mono ?_; rintro e w7 ⟨rfl, hst7⟩))
        have HST7 := Lib.hid (show Step w0 w w7 X p _ from ⟨hst7.1, hkp.out.trans hst7.2⟩)
        clear hst7 hwm hhe hqp hkp hx0 hx6 hown6 HST5
        generalize hG : D.writeE D2 (r : Int) HE = G at *
        generalize D.write D2 (r : Int) HE = D3 at *
        by_cases hz : G = 0
        · subst hz
          rw [if_pos rfl] at HBG
          have hqr := HST7.out.2.cell HQ.out hqX
          have hfl := held_flush HST7.out.1
          have HFL := Lib.hid hfl
          clear hfl
          go_wp2_with fail
          refine HFL.out.mono ?_
          clear HFL
          rintro e w8 ⟨rfl, hst8⟩
          go_wp2
          go_ret
          rw [HBG.out]
          exact ⟨rfl, hst8.1, HST7.out.2.trans hst8.2⟩
        · have hz2 : (G != 0) = true := by rw [bne_iff_ne]; exact hz
          rw [if_neg hz] at HBG
          clear hz
          go_wp2
          go_ret
          rw [HBG.out]
          exact ⟨rfl, HST7.out⟩
      · have hz2 : (F != 0) = true := by rw [bne_iff_ne]; exact hz
        rw [if_neg hz] at HBG
        clear hz
        go_wp2
        go_ret
        rw [HBG.out]
        exact ⟨rfl, HST5.out⟩
end
end Go.Proofs.Ytmcmocakfhedfaa
