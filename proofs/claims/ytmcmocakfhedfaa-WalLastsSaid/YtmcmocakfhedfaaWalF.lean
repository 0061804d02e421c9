/- wal: the record that stands at a place. -/
import Derived.Test.YtmcmocakfhedfaaWalE
namespace Go.Proofs.Ytmcmocakfhedfaa
open Go.RowKit

namespace W5
/-- The bytes of k pieces of a record of n bytes that begins at sector s. -/
def nextB (d : D.Dsk) (s n : Nat) : Nat → List UInt8
  | 0 => []
  | k + 1 => nextB d s n k ++ ((D.sector d ((s + k : Nat) : Int)).drop 17).take (min 491 (n - k * 491))
def size4 (b : List UInt8) : Nat := (W.get b 13 4).1
theorem size4_lt (b : List UInt8) : size4 b < 4294967296 := by
  unfold size4 W.get
  split
  · decide
  · split
    · decide
    · refine Nat.lt_of_lt_of_le (W.num_lt _) ?_
      have h : ((b.drop 13).take 4).length ≤ 4 := by rw [List.length_take]; omega
      refine Nat.le_trans (Nat.pow_le_pow_right (by decide) h) (by decide)
def fits (d : D.Dsk) (gen record s : Nat) (b : List UInt8) (k : Nat) : Bool := decide (∀ i, i < k → D.sector d ((s + i : Nat) : Int) = piece gen record i b)
theorem fits_zero (d : D.Dsk) (gen record s : Nat) (b : List UInt8) : fits d gen record s b 0 = true := decide_eq_true (fun i h => absurd h (Nat.not_lt_zero i))
theorem fits_succ (d : D.Dsk) (gen record s : Nat) (b : List UInt8) (k : Nat) (h : fits d gen record s b k = true) (h2 : D.sector d ((s + k : Nat) : Int) = piece gen record k b) : fits d gen record s b (k + 1) = true := by
  have h := of_decide_eq_true h
  refine decide_eq_true (fun i hi => ?_)
  rcases Nat.lt_succ_iff_lt_or_eq.1 hi with hi | rfl
  · exact h i hi
  · exact h2
theorem fits_not (d : D.Dsk) (gen record s : Nat) (b : List UInt8) (k n : Nat) (hk : k < n) (h2 : D.sector d ((s + k : Nat) : Int) ≠ piece gen record k b) : fits d gen record s b n = false := decide_eq_false (fun h => h2 (h k hk))
def nextR (d : D.Dsk) (gen record at_ : Nat) : Option (List UInt8) :=
  if area d ≤ at_ then none else
  if 8192 < size4 (D.sector d ((areaAt d gen + at_ : Nat) : Int)) ∨ area d - at_ < need (size4 (D.sector d ((areaAt d gen + at_ : Nat) : Int))) then none else
  if fits d gen record (areaAt d gen + at_) (nextB d (areaAt d gen + at_) (size4 (D.sector d ((areaAt d gen + at_ : Nat) : Int))) (need (size4 (D.sector d ((areaAt d gen + at_ : Nat) : Int))))) (need (size4 (D.sector d ((areaAt d gen + at_ : Nat) : Int)))) = true
  then some (nextB d (areaAt d gen + at_) (size4 (D.sector d ((areaAt d gen + at_ : Nat) : Int))) (need (size4 (D.sector d ((areaAt d gen + at_ : Nat) : Int))))) else none
theorem nextB_len (d : D.Dsk) (hok : D.Ok d) (s n : Nat) : ∀ k, k ≤ need n → (nextB d s n k).length = min n (k * 491)
  | 0, _ => by show 0 = _; omega
  | k + 1, h => by
    have h1 := nextB_len d hok s n k (by omega)
    have h2 := sector_len hok ((s + k : Nat) : Int)
    show (nextB d s n k ++ _).length = _
    rw [List.length_append, h1, List.length_take, List.length_drop, h2]
    unfold need at h
    split at h <;> omega
theorem nextB_all (d : D.Dsk) (hok : D.Ok d) (s n : Nat) : (nextB d s n (need n)).length = n := by
  rw [nextB_len d hok s n _ (Nat.le_refl _)]
  unfold need
  split <;> omega
end W5

/-- What next answers. -/
def NextE (w w' : World) (r : Option (List UInt8)) (e : Ending) : Prop := ∃ v, e = .returned (.tuple #[v, .bool r.isSome]) ∧ (∀ b, r = some b → w'.ownsRow w.heap.size 5 1 v b.length (b.map byteVal)) ∧ (r = none → v = .slice none 0 0) ∧ Ext w w'

section
variable {w0 w : World} {X : Nat → Prop} {p q : Nat} {d : D.Dsk}
set_option maxRecDepth 100000 in
set_option maxHeartbeats 3200000 in
theorem next_any (h : Held w0 w X p d) (hdn : d.down = false) (hq : w.cell? ⟨q, 0, none⟩ = some (.pointer (some ⟨p, 0, none⟩))) (gen record at_ : Nat) (hg : gen < 4294967296) (hr : record < 4294967296) (hat : at_ ≤ 4096) :
    Calls Try.prog 48 #[.pointer (some ⟨q, 0, none⟩), .int .u32 (gen : Int), .int .i64 (record : Int), .int .i64 (at_ : Int)] w fun e w' => NextE w w' (W5.nextR d gen record at_) e := by
  have HD := Lib.hid h
  have HQ := Lib.hid hq
  have hok := h.okd
  have hn1 := hok.n1
  have hn2 := hok.n2
  have hal := W5.area_le d hn2
  have hae := W5.area_eq d
  have hau : W5.areaAt d gen = 2 + gen % 2 * W5.area d := rfl
  have hab : W5.areaAt d gen ≤ 2049 ∧ (0 < W5.area d → W5.areaAt d gen + W5.area d ≤ d.n.toNat) := by
    have h3 : (W5.area d : Int) = W5.areaI d.n := hae.symm
    unfold W5.areaI at h3
    rw [hau]
    have : gen % 2 = 0 ∨ gen % 2 = 1 := by omega
    rcases this with h4 | h4 <;> rw [h4] <;> split at h3 <;> omega
  clear hau
  obtain ⟨hab1, hab2⟩ := hab
  clear h
  have hgi : (gen : Int) < 4294967296 := by omega
  have hri : (record : Int) < 4294967296 := by omega
  have hati : (at_ : Int) ≤ 4096 := by omega
  unfold NextE
  go_enter Try.func48, Try.ntmps48
  go_wp2_with fail
  refine (held_size HD.out).mono ?_
  rintro e w1 ⟨rfl, rfl⟩
  go_wp2_with fail
  refine (area_any d.n w (by omega) (by omega)).mono ?_
  rintro e w1 ⟨rfl, rfl⟩
  have hal2 := hal
  generalize hA : W5.area d = A at *
  rw [hae]
  have hai : (A : Int) ≤ 2047 := by omega
  by_cases h1 : A ≤ at_
  · have h1i : (A : Int) - (at_ : Int) < 1 := by omega
    have HN : Hid (W5.nextR d gen record at_ = none) := by unfold Hid W5.nextR; rw [if_pos (by rw [hA]; exact h1)]
    go_wp2
    go_ret2
    rw [HN.out]
    exact ⟨_, rfl, (fun _ h => by cases h), (fun _ => rfl), Ext.refl w⟩
  · have H1 := Lib.hid h1
    obtain ⟨M, hM⟩ : ∃ M : Nat, (A : Int) - (at_ : Int) = (M : Int) := ⟨A - at_, by omega⟩
    have h1i : decide ((M : Int) < 1) = false := decide_eq_false (by omega)
    have hM2 : (M : Int) ≤ 2047 := by omega
    clear h1
    have hab3 := Lib.hid (hab2 (by have := H1.out; omega))
    clear hab2
    go_wp2_with fail
    have hla := fun (w' : World) (hx : Ext w w') => larea_any (HD.out.after_ext hx) (Ext.cell hx HQ.out) gen hg
    have HR : Hid (W5.nextR d gen record at_ = if 8192 < W5.size4 (D.sector d ((W5.areaAt d gen + at_ : Nat) : Int)) ∨ M < W5.need (W5.size4 (D.sector d ((W5.areaAt d gen + at_ : Nat) : Int))) then none else
        if W5.fits d gen record (W5.areaAt d gen + at_) (W5.nextB d (W5.areaAt d gen + at_) (W5.size4 (D.sector d ((W5.areaAt d gen + at_ : Nat) : Int))) (W5.need (W5.size4 (D.sector d ((W5.areaAt d gen + at_ : Nat) : Int))))) (W5.need (W5.size4 (D.sector d ((W5.areaAt d gen + at_ : Nat) : Int)))) = true
        then some (W5.nextB d (W5.areaAt d gen + at_) (W5.size4 (D.sector d ((W5.areaAt d gen + at_ : Nat) : Int))) (W5.need (W5.size4 (D.sector d ((W5.areaAt d gen + at_ : Nat) : Int))))) else none) := by
      have hMn : A - at_ = M := by have := H1.out; omega
      unfold Hid W5.nextR
      rw [hA, if_neg H1.out, hMn]
    generalize hZ : W5.areaAt d gen = Z at *
    have hZt : Z + at_ + M ≤ d.n.toNat := by have := hab3.out; have := H1.out; omega
    generalize hT : Z + at_ = T at *
    have hse := fun (w' : World) (hx : Ext w w') => held_sec (HD.out.after_ext hx) hdn (T : Int) (by omega) (by have := H1.out; omega)
    have hx0 := Ext.of_drew w
    have hqp := HQ.out
    have hw1 : IntKind.i64.wrap ((Z : Int) + (at_ : Int)) = (T : Int) := by rw [IntKind.wrap_i64]; omega
    have HZ := Lib.hid hZ
    go_region_held3 (fun w' => Ext w w' ∧ w'.cell? ⟨q, 0, none⟩ = some (.pointer (some ⟨p, 0, none⟩))) (first | exact ⟨by assumption, Ext.cell (by assumption) hqp⟩ | exact ⟨Ext.trans (by assumption) (by assumption), Ext.cell (Ext.trans (by assumption) (by assumption)) hqp⟩) (first
      | (go_at_call 65; refine (hla _ (by assumption)).mono ?_; rintro e w4 ⟨rfl, rfl⟩)
      | (go_at_call 24; refine (hse _ (by assumption)).mono ?_; rintro e w4 ⟨b1, cap1, rfl, hcap1, hcapm1, hb1, hbs1, -, hx4, hcell1⟩))
    have HX4 := Lib.hid (hx0.trans hx4)
    have HB := Lib.hid hbs1
    clear hx4 hx0 hcell1 hb1 hbs1 hcap1 hcapm1 hla hse hqp hZ hA hae hq
    have hga := get_any _ _ 13 4 w4 HB.out (by omega)
    have hnn : (W.get (D.sector d (T : Int)) 13 4).1 = W5.size4 (D.sector d (T : Int)) := rfl
    have hnl := W5.size4_lt (D.sector d (T : Int))
    rw [hnn] at hga
    generalize hn : W5.size4 (D.sector d (T : Int)) = n at *
    clear hn hnn HB
    have HGA := Lib.hid hga
    clear hga
    have hni : (n : Int) < 4294967296 := by omega
    go_wp2_with fail
    refine HGA.out.mono ?_
    clear HGA
    rintro e w5 ⟨rfl, rfl⟩
    by_cases h2 : 8192 < n
    · have HN : Hid (W5.nextR d gen record at_ = none) := HR.out.trans (if_pos (.inl h2))
      have h2i : (8192 : Int) < (n : Int) := by omega
      clear HR
      go_wp2
      go_ret2
      rw [HN.out]
      exact ⟨_, rfl, (fun _ h => by cases h), (fun _ => rfl), HX4.out⟩
    · have h2d : decide ((8192 : Int) < (n : Int)) = false := decide_eq_false (by omega)
      have h2i : (n : Int) ≤ 8192 := by omega
      have hnd := need_17 n (by omega)
      have hndp := W5.need_pos n
      have hne := need_any (n : Int)
      rw [W5.need_nat] at hne
      go_wp2_with fail
      refine (need_any (n : Int) w4 (by omega) (by omega)).mono ?_
      rintro e w5 ⟨rfl, rfl⟩
      rw [W5.need_nat]
      clear hne
      generalize hN : W5.need n = N at *
      by_cases h3 : M < N
      · have HN : Hid (W5.nextR d gen record at_ = none) := HR.out.trans (if_pos (.inr h3))
        clear HR
        go_wp2
        go_ret2
        rw [HN.out]
        exact ⟨_, rfl, (fun _ h => by cases h), (fun _ => rfl), HX4.out⟩
      · have HR2 : Hid (W5.nextR d gen record at_ = _) := HR.out.trans (if_neg (by rintro (h | h); exact h2 h; exact h3 h))
        have hne : ∀ w, Calls Try.prog 11 #[.int .i64 (n : Int)] w fun e w' => e = .returned (.int .i64 (N : Int)) ∧ w = w' := by
          intro w
          refine (need_any (n : Int) w (by omega) (by omega)).mono ?_
          rintro e w1 ⟨rfl, rfl⟩
          rw [W5.need_nat, hN]
          exact ⟨rfl, rfl⟩
        have HNE := Lib.hid hne
        have hnb := fun k (hk : k ≤ N) => W5.nextB_len d hok T n k (by rw [hN]; exact hk)
        have HNB := Lib.hid hnb
        have hNn : ∀ k, k < N → n = 0 ∧ k = 0 ∨ k * 491 < n := by
          intro k hk
          rw [← hN] at hk
          unfold W5.need at hk
          split at hk <;> omega
        have HNn := Lib.hid hNn
        have hN' := Lib.hid hN
        clear HR hne hnb hNn hN
        go_wp2_with fail
        refine (HNE.out _).mono ?_
        rintro e w5 ⟨rfl, rfl⟩
        go_wp2
        go_loopw [15, 62] (fun bv iv wr => ∃ k : Nat, k ≤ N ∧ iv = .int .i64 (k : Int) ∧ Hid (wr.ownsRow w.heap.size 5 1 bv (W5.nextB d T n k).length ((W5.nextB d T n k).map byteVal)) ∧ Hid (Ext w wr)) (fun _ iv _ => N - (intOf iv).toNat)
        case atStart => exact ⟨0, by omega, rfl, World.ownsRow_nil _ _ _ _, HX4.out⟩
        case round =>
          obtain ⟨k, hk, rfl, ho, hx⟩ := hrel
          by_cases hlt : k < N
          · have hlti : (k : Int) < (N : Int) := by omega
            go_wp2_with fail
            have hla := fun (w' : World) (hx2 : Ext wr w') => larea_any (HD.out.after_ext (hx.out.trans hx2)) (Ext.cell (hx.out.trans hx2) HQ.out) gen hg
            rw [HZ.out] at hla
            have hse := fun (w' : World) (hx2 : Ext wr w') => held_sec (HD.out.after_ext (hx.out.trans hx2)) hdn ((T + k : Nat) : Int) (by omega) (by omega)
            have hx0 := Ext.of_drew wr
            have hqp := Ext.cell hx.out HQ.out
            have hw2 : IntKind.i64.wrap ((T : Int) + (k : Int)) = ((T + k : Nat) : Int) := by rw [IntKind.wrap_i64]; omega
            go_region_held3 (fun w' => Ext wr w' ∧ w'.cell? ⟨q, 0, none⟩ = some (.pointer (some ⟨p, 0, none⟩))) (first | exact ⟨by assumption, Ext.cell (by assumption) hqp⟩ | exact ⟨Ext.trans (by assumption) (by assumption), Ext.cell (Ext.trans (by assumption) (by assumption)) hqp⟩) (first
              | (go_at_call 65; refine (hla _ (by assumption)).mono ?_; rintro e w5 ⟨rfl, rfl⟩)
              | (go_at_call 24; refine (hse _ (by assumption)).mono ?_; rintro e w5 ⟨b2, cap2, rfl, hcap2, hcapm2, hb2, hbs2, -, hx5, hcell2⟩))
            have HX5 := Lib.hid (hx0.trans hx5)
            have HB2 := Lib.hid hbs2
            clear hx5 hx0 hcell2 hb2 hbs2 hla hse hqp
            have HO5 := Lib.hid (HX5.out.keptOwn ho.out)
            have HZS := Lib.hid (show W5.nextB d T n k ++ ((D.sector d ((T + k : Nat) : Int)).drop 17).take (min 491 (n - k * 491)) = W5.nextB d T n (k + 1) from rfl)
            have hl1 := HNB.out (k + 1) hlt
            have hkn := HNn.out k hlt
            have hk17 : k ≤ 17 := by omega
            have hc2 : (512 : Int) ≤ (cap2 : Int) := by omega
            have hc3 : ¬ cap2 < 17 := by omega
            have hc4 : ¬ cap2 ≤ 17 := by omega
            have hc5 : ¬ cap2 = 17 := by omega
            clear ho
            obtain ⟨m, hm⟩ : ∃ m : Nat, (n : Int) - (k : Int) * 491 = (m : Int) := ⟨n - k * 491, by omega⟩
            have hmn : n - k * 491 = m := by omega
            rw [hmn] at HZS
            by_cases hge : m < 491
            · have hsub : Hid (Bs w5 (.slice (some ⟨b2, 17, none⟩) ((17 + (m : Int)).toNat - 17) (cap2 - 17)) (((D.sector d ((T + k : Nat) : Int)).drop 17).take (min 491 m))) := by
                have h5 := HB2.out.sub 17 (m) (by omega)
                rw [Nat.zero_add] at h5
                have e : ((17 + (m : Int)).toNat - 17) = (m) := by omega
                have e2 : min 491 m = (m) := by omega
                rw [e, e2]
                exact h5
              go_wp2_with (first
                | (at_builtin; refine wpl_append_b _ rfl _ _ rfl w.heap.size u15 _ (by rfl) HO5.out _ _ (by rfl) hsub.out _ HZS.out (by omega) (hx.out.trans HX5.out).size ?_; intro v4 w6 hown6 hgrow6)
                | fail)
              have hx6 : Ext w w6 := (hx.out.trans HX5.out).grown hgrow6 (fun k hk => (HO5.out.lt k hk).1)
              have HX6 := Lib.hid hx6
              have HO6 := Lib.hid hown6
              clear hx6 hown6 hgrow6 hsub
              go_wp2
              go_roundw
              case rel => exact ⟨k + 1, by omega, by go_num, HO6, HX6⟩
              case measure => (simp [intOf]; try omega)
            · have hsub : Hid (Bs w5 (.slice (some ⟨b2, 17, none⟩) (491) (cap2 - 17)) (((D.sector d ((T + k : Nat) : Int)).drop 17).take (min 491 m))) := by
                have h5 := HB2.out.sub 17 (491) (by omega)
                rw [Nat.zero_add] at h5
                have e : (491) = (491) := by omega
                have e2 : min 491 m = (491) := by omega
                rw [e, e2]
                exact h5
              go_wp2_with (first
                | (at_builtin; refine wpl_append_b _ rfl _ _ rfl w.heap.size u15 _ (by rfl) HO5.out _ _ (by rfl) hsub.out _ HZS.out (by omega) (hx.out.trans HX5.out).size ?_; intro v4 w6 hown6 hgrow6)
                | fail)
              have hx6 : Ext w w6 := (hx.out.trans HX5.out).grown hgrow6 (fun k hk => (HO5.out.lt k hk).1)
              have HX6 := Lib.hid hx6
              have HO6 := Lib.hid hown6
              clear hx6 hown6 hgrow6 hsub
              go_wp2
              go_roundw
              case rel => exact ⟨k + 1, by omega, by go_num, HO6, HX6⟩
              case measure => (simp [intOf]; try omega)
          · obtain rfl : k = N := by omega
            have hBl : (W5.nextB d T n k).length = n := by have := W5.nextB_all d hok T n; rwa [hN'.out] at this
            rw [hBl] at ho
            generalize W5.nextB d T n k = B at *
            obtain ⟨wA, hwA⟩ : ∃ wA, wA = wr := ⟨_, rfl⟩
            subst hwA
            have HBO := Lib.hid (Bs.of_own (l := B) ho.out)
            go_wp2_with fail
            refine (HNE.out _).mono ?_
            rintro e w5 ⟨rfl, rfl⟩
            have HXR := hx
            clear hx
            go_wp2
            go_loopw [95] (fun iv wr2 => ∃ i : Nat, i ≤ k ∧ iv = .int .i64 (i : Int) ∧ Hid (W5.fits d gen record T B i = true) ∧ Hid (Ext wA wr2)) (fun iv _ => k - (intOf iv).toNat)
            case atStart => exact ⟨0, by omega, rfl, W5.fits_zero _ _ _ _ _, Ext.refl wA⟩
            case round =>
              obtain ⟨i, hi, rfl, hf, hx⟩ := hrel
              by_cases hlt : i < k
              · have hlti : (i : Int) < (k : Int) := by omega
                have hla := fun (w' : World) (hx2 : Ext wr w') => larea_any (HD.out.after_ext ((HXR.out.trans hx.out).trans hx2)) (Ext.cell ((HXR.out.trans hx.out).trans hx2) HQ.out) gen hg
                rw [HZ.out] at hla
                have hse := fun (w' : World) (hx2 : Ext wr w') => held_sec (HD.out.after_ext ((HXR.out.trans hx.out).trans hx2)) hdn ((T + i : Nat) : Int) (by omega) (by omega)
                have hx0 := Ext.of_drew wr
                have hqp := Ext.cell (HXR.out.trans hx.out) HQ.out
                have hw2 : IntKind.i64.wrap ((T : Int) + (i : Int)) = ((T + i : Nat) : Int) := by rw [IntKind.wrap_i64]; omega
                go_wp2_with fail
                go_region_held3 (fun w' => Ext wr w' ∧ w'.cell? ⟨q, 0, none⟩ = some (.pointer (some ⟨p, 0, none⟩))) (first | exact ⟨by assumption, Ext.cell (by assumption) hqp⟩ | exact ⟨Ext.trans (by assumption) (by assumption), Ext.cell (Ext.trans (by assumption) (by assumption)) hqp⟩) (first
                  | (go_at_call 65; refine (hla _ (by assumption)).mono ?_; rintro e w5 ⟨rfl, rfl⟩)
                  | (go_at_call 24; refine (hse _ (by assumption)).mono ?_; rintro e w5 ⟨b2, cap2, rfl, hcap2, hcapm2, hb2, hbs2, -, hx5, hcell2⟩))
                have HX5 := Lib.hid ((hx.out.trans hx0).trans hx5)
                have HB2 := Lib.hid hbs2
                clear hx5 hx0 hcell2 hb2 hbs2 hla hse hqp
                have hpa := piece_any gen record i u15 B w5 hg hr (by omega) (HBO.out.ext HX5.out) (by omega) (by rw [hBl, hN'.out]; omega)
                have HPA := Lib.hid hpa
                clear hpa
                go_wp2_with fail
                refine HPA.out.mono ?_
                clear HPA
                rintro e w6 ⟨v6, rfl, hown6, hx6⟩
                have hq := equal_any _ v6 _ _ w6 (HB2.out.ext hx6) (Bs.of_own hown6)
                have HX6 := Lib.hid (HX5.out.trans hx6)
                have HQE := Lib.hid hq
                clear hown6 hx6 hq HX5
                go_wp2_with fail
                refine HQE.out.mono ?_
                clear HQE
                rintro e w7 ⟨rfl, rfl⟩
                by_cases h7 : D.sector d ((T + i : Nat) : Int) = W5.piece gen record i B
                · rw [decide_eq_true h7]
                  have HF2 := Lib.hid (W5.fits_succ _ _ _ _ _ _ hf.out h7)
                  clear h7 hf
                  go_wp2
                  go_roundw
                  case rel => exact ⟨i + 1, by omega, by go_num, HF2, HX6⟩
                  case measure => (simp [intOf]; try omega)
                · rw [decide_eq_false h7]
                  have HN : Hid (W5.nextR d gen record at_ = none) := HR2.out.trans (if_neg (by rw [W5.fits_not _ _ _ _ _ _ _ hlt h7]; decide))
                  clear h7 hf HR2
                  go_wp2
                  go_ret2
                  rw [HN.out]
                  exact ⟨_, rfl, (fun _ h => by cases h), (fun _ => rfl), HXR.out.trans HX6.out⟩
              · obtain rfl : i = k := by omega
                have HN : Hid (W5.nextR d gen record at_ = some B) := HR2.out.trans (if_pos hf.out)
                have HXF := Lib.hid (HXR.out.trans hx.out)
                have HOF := Lib.hid (hx.out.keptOwn ho.out)
                clear HR2 hf hx ho
                go_wp2
                go_ret2
                rw [HN.out]
                refine ⟨_, rfl, (fun b h => ?_), (fun h => by cases h), HXF.out⟩
                obtain rfl := Option.some.inj h
                rw [hBl]
                exact HOF.out
end
end Go.Proofs.Ytmcmocakfhedfaa
