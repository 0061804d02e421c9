/- MWalB: WalE WalF. -/
import Derived.Test.YtnjfioikpajhlaaGreatMWalA
import Derived.Deep.RegionHeld3
import Derived.Deep.QuietTactic
import Derived.BigQuiet
import Derived.WalkSmall
set_option maxRecDepth 100000
set_option maxHeartbeats 64000000
namespace Go.Proofs.YtnjfioikpajhlaaGreat
open Go.RowKit
namespace W5
def area (d : D.Dsk) : Nat := (areaI d.n).toNat
def areaAt (d : D.Dsk) (gen : Nat) : Nat := 2 + gen % 2 * area d
theorem area_eq (d : D.Dsk) : areaI d.n = (area d : Int) := by unfold area areaI; split <;> omega
theorem area_le (d : D.Dsk) (h : d.n <= 4096) : area d <= 2047 := by unfold area areaI; split <;> omega
end W5
section
variable {w0 w : World} {X : Nat -> Prop} {p q : Nat} {d : D.Dsk}
theorem larea_any (h : Held w0 w X p d) (hq : w.cell? ⟨q, 0, none⟩ = some (.pointer (some ⟨p, 0, none⟩))) (gen : Nat) (hg : gen < 4294967296) :
 Calls Tryz.prog 90 #[.pointer (some ⟨q, 0, none⟩), .int .u32 (gen : Int)] w fun e w' => e = .returned (.int .i64 (W5.areaAt d gen : Int)) /\ w = w' := by
 have HD := qh h
 have hn1 := h.okd.n1
 have hn2 := h.okd.n2
 have hal := W5.area_le d hn2
 have hae := W5.area_eq d
 have hun : W5.areaAt d gen = 2 + gen % 2 * W5.area d := rfl
 have HUN := qh hun
 clear h hun
 have hgi : (gen : Int) < 4294967296 := by omega
 obtain ⟨r, hr⟩ : ∃ r, r = gen % 2 := ⟨_, rfl⟩
 have htm : (gen : Int).tmod 2 = (r : Int) := by rw [hr, Int.ofNat_tmod]; rfl
 have hr2 : (r : Int) <= 1 := by omega
 rw [<- hr] at HUN
 clear hr
 go_enter Tryz.func90, Tryz.ntmps90
 go_wp2_with fail
 refine (held_size HD.out).mono ?_
 rintro e w1 ⟨rfl, rfl⟩
 go_wp2_with fail
 refine (area_any d.n w (by omega) (by omega)).mono ?_
 rintro e w1 ⟨rfl, rfl⟩
 rw [hae]
 clear hae
 generalize W5.area d = A at *
 have hai : (A : Int) <= 2047 := by omega
 have hm1 : (r : Int) * (A : Int) <= 2047 := by
  have : r = 0 ∨ r = 1 := by omega
  rcases this with rfl | rfl <;> simp <;> omega
 have hm0 : 0 <= (r : Int) * (A : Int) := Int.mul_nonneg (by omega) (by omega)
 go_wp2
 go_ret
 refine ⟨?_, rfl⟩
 rw [HUN.out, Int.natCast_add, Int.natCast_mul]
 rfl
theorem room_any (h : Held w0 w X p d) (hq : w.cell? ⟨q, 0, none⟩ = some (.pointer (some ⟨p, 0, none⟩))) (used : Nat) (hu : used <= 1000000) (hq2 : w.cell? ⟨q, 2, none⟩ = some (.int .i64 (used : Int))) :
 Calls Tryz.prog 47 #[.pointer (some ⟨q, 0, none⟩)] w fun e w' => e = .returned (.int .i64 ((W5.area d : Int) - (used : Int))) /\ Ext w w' := by
 have HD := qh h
 have hn1 := h.okd.n1
 have hn2 := h.okd.n2
 have hal := W5.area_le d hn2
 have hae := W5.area_eq d
 have hxn : ∀ n, Ext w (w.drewN n) := fun n => below_drewN (Ext.refl w) n
 have hs : ∀ n, Calls Tryz.prog 26 #[.pointer (some ⟨p, 0, none⟩)] (w.drewN n) fun e w' => e = .returned (.int .i64 d.n) /\ w' = w.drewN n := fun n => (held_size (h.after_ext (hxn n))).mono (fun _ _ hh => ⟨hh.1, hh.2.symm⟩)
 have ha : ∀ n, Calls Tryz.prog 25 #[.int .i64 d.n] (w.drewN n) fun e w' => e = .returned (.int .i64 (W5.areaI d.n)) /\ w' = w.drewN n := fun n => (area_any d.n (w.drewN n) (by omega) (by omega)).mono (fun _ _ hh => ⟨hh.1, hh.2.symm⟩)
 rw [hae] at ha
 clear h hae
 have hui : (used : Int) <= 1000000 := by omega
 generalize W5.area d = A at *
 have hai : (A : Int) <= 2047 := by omega
 go_enter Tryz.func47, Tryz.ntmps47
 go_wp2_with fail
 go_quiet (first
  | (go_at_call 26; exact Calls.quiet_of_same (hs _))
  | (go_at_call 25; exact Calls.quiet_of_same (ha _)))
 go_wp2
 go_ret
 exact ⟨rfl, hxn _⟩
end
end Go.Proofs.YtnjfioikpajhlaaGreat
namespace Go.Proofs.YtnjfioikpajhlaaGreat
open Go.RowKit
namespace W5
def nextB (d : D.Dsk) (s n : Nat) : Nat -> List UInt8
 | 0 => []
 | k + 1 => nextB d s n k ++ ((D.sector d ((s + k : Nat) : Int)).drop 17).take (min 491 (n - k * 491))
def size4 (b : List UInt8) : Nat := (W.get b 13 4).1
theorem size4_lt (b : List UInt8) : size4 b < 4294967296 := by
 unfold size4 W.get
 split
 ·decide
 ·split
  ·decide
  ·refine Nat.lt_of_lt_of_le (W.num_lt _) ?_
   have h : ((b.drop 13).take 4).length <= 4 := by rw [List.length_take]; omega
   refine Nat.le_trans (Nat.pow_le_pow_right (by decide) h) (by decide)
def fits (d : D.Dsk) (gen record s : Nat) (b : List UInt8) (k : Nat) : Bool := decide (∀ i, i < k -> D.sector d ((s + i : Nat) : Int) = piece gen record i b)
theorem fits_zero (d : D.Dsk) (gen record s : Nat) (b : List UInt8) : fits d gen record s b 0 = true := decide_eq_true (fun i h => absurd h (Nat.not_lt_zero i))
theorem fits_succ (d : D.Dsk) (gen record s : Nat) (b : List UInt8) (k : Nat) (h : fits d gen record s b k = true) (h2 : D.sector d ((s + k : Nat) : Int) = piece gen record k b) : fits d gen record s b (k + 1) = true := by
 have h := of_decide_eq_true h
 refine decide_eq_true (fun i hi => ?_)
 rcases Nat.lt_succ_iff_lt_or_eq.1 hi with hi | rfl
 ·exact h i hi
 ·exact h2
theorem fits_not (d : D.Dsk) (gen record s : Nat) (b : List UInt8) (k n : Nat) (hk : k < n) (h2 : D.sector d ((s + k : Nat) : Int) ≠ piece gen record k b) : fits d gen record s b n = false := decide_eq_false (fun h => h2 (h k hk))
def nextR (d : D.Dsk) (gen record at_ : Nat) : Option (List UInt8) :=
 if area d <= at_ then none else
 if 8192 < size4 (D.sector d ((areaAt d gen + at_ : Nat) : Int)) ∨ area d - at_ < need (size4 (D.sector d ((areaAt d gen + at_ : Nat) : Int))) then none else
 if fits d gen record (areaAt d gen + at_) (nextB d (areaAt d gen + at_) (size4 (D.sector d ((areaAt d gen + at_ : Nat) : Int))) (need (size4 (D.sector d ((areaAt d gen + at_ : Nat) : Int))))) (need (size4 (D.sector d ((areaAt d gen + at_ : Nat) : Int)))) = true
 then some (nextB d (areaAt d gen + at_) (size4 (D.sector d ((areaAt d gen + at_ : Nat) : Int))) (need (size4 (D.sector d ((areaAt d gen + at_ : Nat) : Int))))) else none
theorem nextB_len (d : D.Dsk) (hok : D.Ok d) (s n : Nat) : ∀ k, k <= need n -> (nextB d s n k).length = min n (k * 491)
 | 0, _ => by show 0 = _; omega
 | k + 1, h => by
  have h1 := nextB_len d hok s n k (by omega)
  have h2 := sector_len hok ((s + k : Nat) : Int)
  show (nextB d s n k ++ _).length = _
  rw [List.length_append, h1, List.length_take, List.length_drop, h2]
  unfold need at h
  split at h <;> omega
theorem nextB_all (d : D.Dsk) (hok : D.Ok d) (s n : Nat) : (nextB d s n (need n)).length = n := by
 rw [nextB_len d hok s n _ (Nat.le_refl _)]
 unfold need
 split <;> omega
end W5
def NextE (w w' : World) (r : Option (List UInt8)) (e : Ending) : Prop := ∃ v, e = .returned (.tuple #[v, .bool r.isSome]) /\ (∀ b, r = some b -> w'.ownsRow w.heap.size 5 1 v b.length (b.map byteVal)) /\ (r = none -> v = .slice none 0 0) /\ Ext w w'
section
variable {w0 w : World} {X : Nat -> Prop} {p q : Nat} {d : D.Dsk}
theorem next_any (h : Held w0 w X p d) (hdn : d.down = false) (hq : w.cell? ⟨q, 0, none⟩ = some (.pointer (some ⟨p, 0, none⟩))) (gen record at_ : Nat) (hg : gen < 4294967296) (hr : record < 4294967296) (hat : at_ <= 4096) :
 Calls Tryz.prog 60 #[.pointer (some ⟨q, 0, none⟩), .int .u32 (gen : Int), .int .i64 (record : Int), .int .i64 (at_ : Int)] w fun e w' => NextE w w' (W5.nextR d gen record at_) e := by
 have HD := qh h
 have HQ := qh hq
 have hok := h.okd
 have hn1 := hok.n1
 have hn2 := hok.n2
 have hal := W5.area_le d hn2
 have hae := W5.area_eq d
 have hau : W5.areaAt d gen = 2 + gen % 2 * W5.area d := rfl
 have hab : W5.areaAt d gen <= 2049 /\ (0 < W5.area d -> W5.areaAt d gen + W5.area d <= d.n.toNat) := by
  have h3 : (W5.area d : Int) = W5.areaI d.n := hae.symm
  unfold W5.areaI at h3
  rw [hau]
  have : gen % 2 = 0 ∨ gen % 2 = 1 := by omega
  rcases this with h4 | h4 <;> rw [h4] <;> split at h3 <;> omega
 clear hau
 obtain ⟨hab1, hab2⟩ := hab
 clear h
 have hgi : (gen : Int) < 4294967296 := by omega
 have hri : (record : Int) < 4294967296 := by omega
 have hati : (at_ : Int) <= 4096 := by omega
 unfold NextE
 go_enter Tryz.func60, Tryz.ntmps60
 go_wp2_with fail
 refine (held_size HD.out).mono ?_
 rintro e w1 ⟨rfl, rfl⟩
 go_wp2_with fail
 refine (area_any d.n w (by omega) (by omega)).mono ?_
 rintro e w1 ⟨rfl, rfl⟩
 have hal2 := hal
 generalize hA : W5.area d = A at *
 rw [hae]
 have hai : (A : Int) <= 2047 := by omega
 by_cases h1 : A <= at_
 ·have h1i : (A : Int) - (at_ : Int) < 1 := by omega
  have HN : Hid (W5.nextR d gen record at_ = none) := by unfold Hid W5.nextR; rw [if_pos (by rw [hA]; exact h1)]
  go_wp2
  go_ret2
  rw [HN.out]
  exact ⟨_, rfl, (fun _ h => by cases h), (fun _ => rfl), Ext.refl w⟩
 ·have H1 := qh h1
  obtain ⟨M, hM⟩ : ∃ M : Nat, (A : Int) - (at_ : Int) = (M : Int) := ⟨A - at_, by omega⟩
  have h1i : decide ((M : Int) < 1) = false := decide_eq_false (by omega)
  have hM2 : (M : Int) <= 2047 := by omega
  clear h1
  have hab3 := qh (hab2 (by have := H1.out; omega))
  clear hab2
  go_wp2_with fail
  have hla := fun (w' : World) (hx : Ext w w') => larea_any (HD.out.after_ext hx) (Ext.cell hx HQ.out) gen hg
  have HR : Hid (W5.nextR d gen record at_ = if 8192 < W5.size4 (D.sector d ((W5.areaAt d gen + at_ : Nat) : Int)) ∨ M < W5.need (W5.size4 (D.sector d ((W5.areaAt d gen + at_ : Nat) : Int))) then none else
   if W5.fits d gen record (W5.areaAt d gen + at_) (W5.nextB d (W5.areaAt d gen + at_) (W5.size4 (D.sector d ((W5.areaAt d gen + at_ : Nat) : Int))) (W5.need (W5.size4 (D.sector d ((W5.areaAt d gen + at_ : Nat) : Int))))) (W5.need (W5.size4 (D.sector d ((W5.areaAt d gen + at_ : Nat) : Int)))) = true
   then some (W5.nextB d (W5.areaAt d gen + at_) (W5.size4 (D.sector d ((W5.areaAt d gen + at_ : Nat) : Int))) (W5.need (W5.size4 (D.sector d ((W5.areaAt d gen + at_ : Nat) : Int))))) else none) := by
   have hMn : A - at_ = M := by have := H1.out; omega
   unfold Hid W5.nextR
   rw [hA, if_neg H1.out, hMn]
  generalize hZ : W5.areaAt d gen = Z at *
  have hZt : Z + at_ + M <= d.n.toNat := by have := hab3.out; have := H1.out; omega
  generalize hT : Z + at_ = T at *
  have hse := fun (w' : World) (hx : Ext w w') => held_sec (HD.out.after_ext hx) hdn (T : Int) (by omega) (by have := H1.out; omega)
  have hx0 := Ext.of_drew w
  have hqp := HQ.out
  have hw1 : IntKind.i64.wrap ((Z : Int) + (at_ : Int)) = (T : Int) := by rw [IntKind.wrap_i64]; omega
  have HZ := qh hZ
  go_region_held3 (fun w' => Ext w w' /\ w'.cell? ⟨q, 0, none⟩ = some (.pointer (some ⟨p, 0, none⟩))) (first | exact ⟨by assumption, Ext.cell (by assumption) hqp⟩ | exact ⟨Ext.trans (by assumption) (by assumption), Ext.cell (Ext.trans (by assumption) (by assumption)) hqp⟩) (first
   | (go_at_call 90; refine (hla _ (by assumption)).mono ?_; rintro e w4 ⟨rfl, rfl⟩)
   | (go_at_call 81; refine (hse _ (by assumption)).mono ?_; rintro e w4 ⟨b1, cap1, rfl, hcap1, hcapm1, hb1, hbs1, -, hx4, hcell1⟩))
  have HX4 := qh (hx0.trans hx4)
  have HB := qh hbs1
  clear hx4 hx0 hcell1 hb1 hbs1 hcap1 hcapm1 hla hse hqp hZ hA hae hq
  have hga := get_any _ _ 13 4 w4 HB.out (by omega)
  have hnn : (W.get (D.sector d (T : Int)) 13 4).1 = W5.size4 (D.sector d (T : Int)) := rfl
  have hnl := W5.size4_lt (D.sector d (T : Int))
  rw [hnn] at hga
  generalize hn : W5.size4 (D.sector d (T : Int)) = n at *
  clear hn hnn HB
  have HGA := qh hga
  clear hga
  have hni : (n : Int) < 4294967296 := by omega
  go_wp2_with fail
  refine HGA.out.mono ?_
  clear HGA
  rintro e w5 ⟨rfl, rfl⟩
  by_cases h2 : 8192 < n
  ·have HN : Hid (W5.nextR d gen record at_ = none) := HR.out.trans (if_pos (.inl h2))
   have h2i : (8192 : Int) < (n : Int) := by omega
   clear HR
   go_wp2
   go_ret2
   rw [HN.out]
   exact ⟨_, rfl, (fun _ h => by cases h), (fun _ => rfl), HX4.out⟩
  ·have h2d : decide ((8192 : Int) < (n : Int)) = false := decide_eq_false (by omega)
   have h2i : (n : Int) <= 8192 := by omega
   have hnd := need_17 n (by omega)
   have hndp := W5.need_pos n
   have hne := need_any (n : Int)
   rw [W5.need_nat] at hne
   go_wp2_with fail
   refine (need_any (n : Int) w4 (by omega) (by omega)).mono ?_
   rintro e w5 ⟨rfl, rfl⟩
   rw [W5.need_nat]
   clear hne
   generalize hN : W5.need n = N at *
   by_cases h3 : M < N
   ·have HN : Hid (W5.nextR d gen record at_ = none) := HR.out.trans (if_pos (.inr h3))
    clear HR
    go_wp2
    go_ret2
    rw [HN.out]
    exact ⟨_, rfl, (fun _ h => by cases h), (fun _ => rfl), HX4.out⟩
   ·have HR2 : Hid (W5.nextR d gen record at_ = _) := HR.out.trans (if_neg (by rintro (h | h); exact h2 h; exact h3 h))
    have hne : ∀ w, Calls Tryz.prog 46 #[.int .i64 (n : Int)] w fun e w' => e = .returned (.int .i64 (N : Int)) /\ w = w' := by
     intro w
     refine (need_any (n : Int) w (by omega) (by omega)).mono ?_
     rintro e w1 ⟨rfl, rfl⟩
     rw [W5.need_nat, hN]
     exact ⟨rfl, rfl⟩
    have HNE := qh hne
    have hnb := fun k (hk : k <= N) => W5.nextB_len d hok T n k (by rw [hN]; exact hk)
    have HNB := qh hnb
    have hNn : ∀ k, k < N -> n = 0 /\ k = 0 ∨ k * 491 < n := by
     intro k hk
     rw [<- hN] at hk
     unfold W5.need at hk
     split at hk <;> omega
    have HNn := qh hNn
    have hN' := qh hN
    clear HR hne hnb hNn hN
    go_wp2_with fail
    refine (HNE.out _).mono ?_
    rintro e w5 ⟨rfl, rfl⟩
    go_wp2
    go_loopw [15, 62] (fun bv iv wr => ∃ k : Nat, k <= N /\ iv = .int .i64 (k : Int) /\ Hid (wr.ownsRow w.heap.size 5 1 bv (W5.nextB d T n k).length ((W5.nextB d T n k).map byteVal)) /\ Hid (Ext w wr)) (fun _ iv _ => N - (intOf iv).toNat)
    case atStart => exact ⟨0, by omega, rfl, World.ownsRow_nil _ _ _ _, HX4.out⟩
    case round =>
     obtain ⟨k, hk, rfl, ho, hx⟩ := hrel
     by_cases hlt : k < N
     ·have hlti : (k : Int) < (N : Int) := by omega
      go_wp2_with fail
      have hla := fun (w' : World) (hx2 : Ext wr w') => larea_any (HD.out.after_ext (hx.out.trans hx2)) (Ext.cell (hx.out.trans hx2) HQ.out) gen hg
      rw [HZ.out] at hla
      have hse := fun (w' : World) (hx2 : Ext wr w') => held_sec (HD.out.after_ext (hx.out.trans hx2)) hdn ((T + k : Nat) : Int) (by omega) (by omega)
      have hx0 := Ext.of_drew wr
      have hqp := Ext.cell hx.out HQ.out
      have hw2 : IntKind.i64.wrap ((T : Int) + (k : Int)) = ((T + k : Nat) : Int) := by rw [IntKind.wrap_i64]; omega
      go_region_held3 (fun w' => Ext wr w' /\ w'.cell? ⟨q, 0, none⟩ = some (.pointer (some ⟨p, 0, none⟩))) (first | exact ⟨by assumption, Ext.cell (by assumption) hqp⟩ | exact ⟨Ext.trans (by assumption) (by assumption), Ext.cell (Ext.trans (by assumption) (by assumption)) hqp⟩) (first
       | (go_at_call 90; refine (hla _ (by assumption)).mono ?_; rintro e w5 ⟨rfl, rfl⟩)
       | (go_at_call 81; refine (hse _ (by assumption)).mono ?_; rintro e w5 ⟨b2, cap2, rfl, hcap2, hcapm2, hb2, hbs2, -, hx5, hcell2⟩))
      have HX5 := qh (hx0.trans hx5)
      have HB2 := qh hbs2
      clear hx5 hx0 hcell2 hb2 hbs2 hla hse hqp
      have HO5 := qh (HX5.out.keptOwn ho.out)
      have HZS := qh (show W5.nextB d T n k ++ ((D.sector d ((T + k : Nat) : Int)).drop 17).take (min 491 (n - k * 491)) = W5.nextB d T n (k + 1) from rfl)
      have hl1 := HNB.out (k + 1) hlt
      have hkn := HNn.out k hlt
      have hk17 : k <= 17 := by omega
      have hc2 : (512 : Int) <= (cap2 : Int) := by omega
      have hc3 : ¬ cap2 < 17 := by omega
      have hc4 : ¬ cap2 <= 17 := by omega
      have hc5 : ¬ cap2 = 17 := by omega
      clear ho
      obtain ⟨m, hm⟩ : ∃ m : Nat, (n : Int) - (k : Int) * 491 = (m : Int) := ⟨n - k * 491, by omega⟩
      have hmn : n - k * 491 = m := by omega
      rw [hmn] at HZS
      by_cases hge : m < 491
      ·have hsub : Hid (Bs w5 (.slice (some ⟨b2, 17, none⟩) ((17 + (m : Int)).toNat - 17) (cap2 - 17)) (((D.sector d ((T + k : Nat) : Int)).drop 17).take (min 491 m))) := by
        have h5 := HB2.out.sub 17 (m) (by omega)
        rw [Nat.zero_add] at h5
        have e : ((17 + (m : Int)).toNat - 17) = (m) := by omega
        have e2 : min 491 m = (m) := by omega
        rw [e, e2]
        exact h5
       go_wp2_with (first
        | (at_builtin; refine wpl_append_b _ rfl _ _ rfl w.heap.size u15 _ (by rfl) HO5.out _ _ (by rfl) hsub.out _ HZS.out (by omega) (hx.out.trans HX5.out).size ?_; intro v4 w6 hown6 hgrow6)
        | fail)
       have hx6 : Ext w w6 := (hx.out.trans HX5.out).grown hgrow6 (fun k hk => (HO5.out.lt k hk).1)
       have HX6 := qh hx6
       have HO6 := qh hown6
       clear hx6 hown6 hgrow6 hsub
       go_wp2
       go_roundw
       case rel => exact ⟨k + 1, by omega, by go_num, HO6, HX6⟩
       case measure => (simp [intOf]; try omega)
      ·have hsub : Hid (Bs w5 (.slice (some ⟨b2, 17, none⟩) (491) (cap2 - 17)) (((D.sector d ((T + k : Nat) : Int)).drop 17).take (min 491 m))) := by
        have h5 := HB2.out.sub 17 (491) (by omega)
        rw [Nat.zero_add] at h5
        have e : (491) = (491) := by omega
        have e2 : min 491 m = (491) := by omega
        rw [e, e2]
        exact h5
       go_wp2_with (first
        | (at_builtin; refine wpl_append_b _ rfl _ _ rfl w.heap.size u15 _ (by rfl) HO5.out _ _ (by rfl) hsub.out _ HZS.out (by omega) (hx.out.trans HX5.out).size ?_; intro v4 w6 hown6 hgrow6)
        | fail)
       have hx6 : Ext w w6 := (hx.out.trans HX5.out).grown hgrow6 (fun k hk => (HO5.out.lt k hk).1)
       have HX6 := qh hx6
       have HO6 := qh hown6
       clear hx6 hown6 hgrow6 hsub
       go_wp2
       go_roundw
       case rel => exact ⟨k + 1, by omega, by go_num, HO6, HX6⟩
       case measure => (simp [intOf]; try omega)
     ·obtain rfl : k = N := by omega
      have hBl : (W5.nextB d T n k).length = n := by have := W5.nextB_all d hok T n; rwa [hN'.out] at this
      rw [hBl] at ho
      generalize W5.nextB d T n k = B at *
      obtain ⟨wA, hwA⟩ : ∃ wA, wA = wr := ⟨_, rfl⟩
      subst hwA
      have HBO := qh (Bs.of_own (l := B) ho.out)
      go_wp2_with fail
      refine (HNE.out _).mono ?_
      rintro e w5 ⟨rfl, rfl⟩
      have HXR := hx
      clear hx
      go_wp2
      go_loopw [95] (fun iv wr2 => ∃ i : Nat, i <= k /\ iv = .int .i64 (i : Int) /\ Hid (W5.fits d gen record T B i = true) /\ Hid (Ext wA wr2)) (fun iv _ => k - (intOf iv).toNat)
      case atStart => exact ⟨0, by omega, rfl, W5.fits_zero _ _ _ _ _, Ext.refl wA⟩
      case round =>
       obtain ⟨i, hi, rfl, hf, hx⟩ := hrel
       by_cases hlt : i < k
       ·have hlti : (i : Int) < (k : Int) := by omega
        have hla := fun (w' : World) (hx2 : Ext wr w') => larea_any (HD.out.after_ext ((HXR.out.trans hx.out).trans hx2)) (Ext.cell ((HXR.out.trans hx.out).trans hx2) HQ.out) gen hg
        rw [HZ.out] at hla
        have hse := fun (w' : World) (hx2 : Ext wr w') => held_sec (HD.out.after_ext ((HXR.out.trans hx.out).trans hx2)) hdn ((T + i : Nat) : Int) (by omega) (by omega)
        have hx0 := Ext.of_drew wr
        have hqp := Ext.cell (HXR.out.trans hx.out) HQ.out
        have hw2 : IntKind.i64.wrap ((T : Int) + (i : Int)) = ((T + i : Nat) : Int) := by rw [IntKind.wrap_i64]; omega
        go_wp2_with fail
        go_region_held3 (fun w' => Ext wr w' /\ w'.cell? ⟨q, 0, none⟩ = some (.pointer (some ⟨p, 0, none⟩))) (first | exact ⟨by assumption, Ext.cell (by assumption) hqp⟩ | exact ⟨Ext.trans (by assumption) (by assumption), Ext.cell (Ext.trans (by assumption) (by assumption)) hqp⟩) (first
         | (go_at_call 90; refine (hla _ (by assumption)).mono ?_; rintro e w5 ⟨rfl, rfl⟩)
         | (go_at_call 81; refine (hse _ (by assumption)).mono ?_; rintro e w5 ⟨b2, cap2, rfl, hcap2, hcapm2, hb2, hbs2, -, hx5, hcell2⟩))
        have HX5 := qh ((hx.out.trans hx0).trans hx5)
        have HB2 := qh hbs2
        clear hx5 hx0 hcell2 hb2 hbs2 hla hse hqp
        have hpa := piece_any gen record i u15 B w5 hg hr (by omega) (HBO.out.ext HX5.out) (by omega) (by rw [hBl, hN'.out]; omega)
        have HPA := qh hpa
        clear hpa
        go_wp2_with fail
        refine HPA.out.mono ?_
        clear HPA
        rintro e w6 ⟨v6, rfl, hown6, hx6⟩
        have hq := equal_any _ v6 _ _ w6 (HB2.out.ext hx6) (Bs.of_own hown6)
        have HX6 := qh (HX5.out.trans hx6)
        have HQE := qh hq
        clear hown6 hx6 hq HX5
        go_wp2_with fail
        refine HQE.out.mono ?_
        clear HQE
        rintro e w7 ⟨rfl, rfl⟩
        by_cases h7 : D.sector d ((T + i : Nat) : Int) = W5.piece gen record i B
        ·rw [decide_eq_true h7]
         have HF2 := qh (W5.fits_succ _ _ _ _ _ _ hf.out h7)
         clear h7 hf
         go_wp2
         go_roundw
         case rel => exact ⟨i + 1, by omega, by go_num, HF2, HX6⟩
         case measure => (simp [intOf]; try omega)
        ·rw [decide_eq_false h7]
         have HN : Hid (W5.nextR d gen record at_ = none) := HR2.out.trans (if_neg (by rw [W5.fits_not _ _ _ _ _ _ _ hlt h7]; decide))
         clear h7 hf HR2
         go_wp2
         go_ret2
         rw [HN.out]
         exact ⟨_, rfl, (fun _ h => by cases h), (fun _ => rfl), HXR.out.trans HX6.out⟩
       ·obtain rfl : i = k := by omega
        have HN : Hid (W5.nextR d gen record at_ = some B) := HR2.out.trans (if_pos hf.out)
        have HXF := qh (HXR.out.trans hx.out)
        have HOF := qh (hx.out.keptOwn ho.out)
        clear HR2 hf hx ho
        go_wp2
        go_ret2
        rw [HN.out]
        refine ⟨_, rfl, (fun b h => ?_), (fun h => by cases h), HXF.out⟩
        obtain rfl := Option.some.inj h
        rw [hBl]
        exact HOF.out
end
end Go.Proofs.YtnjfioikpajhlaaGreat
namespace Go.Proofs.YtnjfioikpajhlaaGreat
open Go.RowKit
namespace W5
def layTo (d : D.Dsk) (gen record s : Nat) (b : List UInt8) : Nat -> D.Dsk × Int
 | 0 => (d, 0)
 | k + 1 => if (layTo d gen record s b k).2 = 0 then (D.write (layTo d gen record s b k).1 ((s + k : Nat) : Int) (piece gen record k b), D.writeE (layTo d gen record s b k).1 ((s + k : Nat) : Int) (piece gen record k b)) else layTo d gen record s b k
def lay (d : D.Dsk) (gen record at_ : Nat) (b : List UInt8) : D.Dsk × Int := layTo d gen record (areaAt d gen + at_) b (need b.length)
theorem write_n (d : D.Dsk) (i : Int) (s : List UInt8) : (D.write d i s).n = d.n := by
 unfold D.write
 split
 ·rfl
 ·split
  ·rfl
  ·split
   ·rfl
   ·unfold D.goes; split <;> (try split) <;> rfl
theorem write_wait (d : D.Dsk) (i : Int) (s : List UInt8) : (D.write d i s).wait.length <= d.wait.length + 1 := by
 unfold D.write
 split
 ·exact Nat.le_succ _
 ·split
  ·exact Nat.le_succ _
  ·split
   ·exact Nat.le_succ _
   ·show (d.wait ++ [(i, s)]).length <= _
    rw [List.length_append]; exact Nat.le_refl _
theorem layTo_n (d : D.Dsk) (gen record s : Nat) (b : List UInt8) : ∀ k, (layTo d gen record s b k).1.n = d.n
 | 0 => rfl
 | k + 1 => by
  unfold layTo
  split
  ·exact (write_n _ _ _).trans (layTo_n d gen record s b k)
  ·exact layTo_n d gen record s b k
theorem layTo_wait (d : D.Dsk) (gen record s : Nat) (b : List UInt8) : ∀ k, (layTo d gen record s b k).1.wait.length <= d.wait.length + k
 | 0 => Nat.le_refl _
 | k + 1 => by
  have h := layTo_wait d gen record s b k
  unfold layTo
  split
  ·exact Nat.le_trans (write_wait _ _ _) (by omega)
  ·omega
theorem layTo_stop (d : D.Dsk) (gen record s : Nat) (b : List UInt8) (k : Nat) (h : (layTo d gen record s b k).2 ≠ 0) : ∀ j, k <= j -> layTo d gen record s b j = layTo d gen record s b k := by
 intro j hj
 induction j with
 | zero => obtain rfl : k = 0 := by omega
           rfl
 | succ j ih =>
  rcases Nat.lt_or_ge j k with h2 | h2
  ·obtain rfl : k = j + 1 := by omega
   rfl
  ·have h3 := ih h2
   rw [<- h3] at h
   rw [<- h3]
   show (if _ then _ else _) = _
   rw [if_neg h]
end W5
section
variable {w0 w wa w1 : World} {X : Nat -> Prop} {p q : Nat} {d : D.Dsk}
theorem held_write_made (h : Held w0 w X p d) (hxa : Ext w wa) (hx : Ext wa w1) (i : Int) (v : Value) (s : List UInt8) (hs : w1.ownsRow wa.heap.size 5 1 v s.length (s.map byteVal)) (hw : d.wait.length <= 1073741824) :
 Calls Tryz.prog 102 #[.pointer (some ⟨p, 0, none⟩), .int .i64 i, v] w1 fun e w' => e = .returned (.int .i64 (D.writeE d i s)) /\ Step w0 w w' X p (D.write d i s) := by
 refine (held_write h (hxa.trans hx) i v s (Bs.of_own hs) (fun k hk => .inr ?_) hw).mono ?_
 ·have h1 := hs.lt k hk
  have h2 := hxa.size
  exact ⟨by omega, h1.2⟩
 ·rintro e w' ⟨he, h1, h2⟩
  exact ⟨he, h1, (Keeps.of_ext (hxa.trans hx)).trans h2⟩
theorem lay_any (h : Held w0 w X p d) (hq : w.cell? ⟨q, 0, none⟩ = some (.pointer (some ⟨p, 0, none⟩))) (hqX : X q) (gen record at_ : Nat) (v : Value) (b : List UInt8) (hb : Bs w v b) (hbX : ∀ k, v.ownBlock = some k -> X k)
 (hg : gen < 4294967296) (hr : record < 4294967296) (hat : at_ <= 4096) (hbl : b.length <= 8192) (hwl : d.wait.length <= 1073700000) :
 Calls Tryz.prog 78 #[.pointer (some ⟨q, 0, none⟩), .int .u32 (gen : Int), .int .i64 (record : Int), .int .i64 (at_ : Int), v] w fun e w' => e = .returned (.int .i64 (W5.lay d gen record at_ b).2) /\ Step w0 w w' X p (W5.lay d gen record at_ b).1 := by
 have HD := qh h
 have HQ := qh hq
 have HB := qh hb
 have HBX := qh hbX
 have hok := h.okd
 have hn2 := hok.n2
 have hal := W5.area_le d hn2
 have haa : W5.areaAt d gen <= 2049 := by
  have e : W5.areaAt d gen = 2 + gen % 2 * W5.area d := rfl
  rw [e]
  have : gen % 2 = 0 ∨ gen % 2 = 1 := by omega
  rcases this with h4 | h4 <;> rw [h4] <;> omega
 have hbi : (b.length : Int) <= 8192 := by omega
 have hgi : (gen : Int) < 4294967296 := by omega
 have hri : (record : Int) < 4294967296 := by omega
 have hati : (at_ : Int) <= 4096 := by omega
 obtain ⟨a, cap, rfl⟩ := hb.shape
 clear h hq hb hbX hal hok hn2
 unfold W5.lay
 have hnd := need_17 b.length hbl
 have hne : ∀ w, Calls Tryz.prog 46 #[.int .i64 (b.length : Int)] w fun e w' => e = .returned (.int .i64 (W5.need b.length : Int)) /\ w = w' := by
  intro w
  refine (need_any (b.length : Int) w (by omega) (by omega)).mono ?_
  rintro e w1 ⟨rfl, rfl⟩
  rw [W5.need_nat]
  exact ⟨rfl, rfl⟩
 have HNE := qh hne
 clear hne
 generalize hN : W5.need b.length = N at *
 have HN := qh hN
 clear hN
 generalize hZ : W5.areaAt d gen = Z at *
 have HZ := qh hZ
 clear hZ
 generalize hT : Z + at_ = T at *
 go_enter Tryz.func78, Tryz.ntmps78
 go_wp2_with fail
 refine (HNE.out _).mono ?_
 rintro e w5 ⟨rfl, rfl⟩
 go_wp2
 go_loopw [16] (fun iv wr => ∃ k : Nat, k <= N /\ iv = .int .i64 (k : Int) /\ Hid (Step w0 w wr X p (W5.layTo d gen record T b k).1) /\ Hid ((W5.layTo d gen record T b k).2 = 0)) (fun iv _ => N - (intOf iv).toNat)
 case atStart => exact ⟨0, by omega, rfl, ⟨HD.out, Keeps.refl _ _⟩, rfl⟩
 case round =>
  obtain ⟨k, hk, rfl, hst, he⟩ := hrel
  by_cases hlt : k < N
  ·have hlti : (k : Int) < (N : Int) := by omega
   have hdn : (W5.layTo d gen record T b k).1.n = d.n := W5.layTo_n _ _ _ _ _ _
   have hdw := W5.layTo_wait d gen record T b k
   have hsu : W5.layTo d gen record T b (k + 1) = (D.write (W5.layTo d gen record T b k).1 ((T + k : Nat) : Int) (W5.piece gen record k b), D.writeE (W5.layTo d gen record T b k).1 ((T + k : Nat) : Int) (W5.piece gen record k b)) := if_pos he.out
   generalize hDk : W5.layTo d gen record T b k = DK at *
   have hla := fun (w' : World) (hx2 : Ext wr w') => larea_any (hst.out.1.after_ext hx2) (Ext.cell hx2 (hst.out.2.cell HQ.out hqX)) gen hg
   have hza : W5.areaAt DK.1 gen = Z := by rw [<- HZ.out]; unfold W5.areaAt W5.area; rw [hdn]
   rw [hza] at hla
   have hpa := fun (w' : World) (hx2 : Ext wr w') => piece_any gen record k (.slice a b.length cap) b w' hg hr (by omega) ((hst.out.2.bs HB.out HBX.out).ext hx2) hbl (by rw [HN.out]; exact hlt)
   unfold MadeB at hpa
   have hwm := fun (wa w1 : World) (v : Value) (hxa : Ext wr wa) (hx : Ext wa w1) (hs : w1.ownsRow wa.heap.size 5 1 v (W5.piece gen record k b).length ((W5.piece gen record k b).map byteVal)) => held_write_made hst.out.1 hxa hx ((T + k : Nat) : Int) v _ hs (by omega)
   have hkp := qh hst.out.2
   have hx0 := Ext.of_drew wr
   have hqp := hst.out.2.cell HQ.out hqX
   have hw1 : IntKind.i64.wrap ((Z : Int) + (at_ : Int)) = (T : Int) := by rw [IntKind.wrap_i64]; omega
   have hw2 : IntKind.i64.wrap ((T : Int) + (k : Int)) = ((T + k : Nat) : Int) := by rw [IntKind.wrap_i64]; omega
   go_wp2_with fail
   go_region_held3 (fun w' => w'.cell? ⟨q, 0, none⟩ = some (.pointer (some ⟨p, 0, none⟩))) (first | exact Ext.cell hx0 hqp | exact Ext.cell hx6 (Ext.cell hx0 hqp) | exact Keeps.cell hst7.2 hqp hqX) (first
    | (go_at_call 90; refine (hla _ (by first | exact hx0 | exact Ext.trans hx0 hx6)).mono ?_; rintro e w5 ⟨rfl, rfl⟩)
    | (go_at_call 91; refine (hpa _ hx0).mono ?_; rintro e w6 ⟨v6, rfl, hown6, hx6⟩)
    | (go_at_call 102; refine (hwm _ _ _ hx0 hx6 hown6).mono ?_; rintro e w7 ⟨rfl, hst7⟩))
   rw [Int.natCast_add] at hsu hst7
   generalize hE : D.writeE DK.1 ((T : Int) + (k : Int)) (W5.piece gen record k b) = E at *
   generalize hD2 : D.write DK.1 ((T : Int) + (k : Int)) (W5.piece gen record k b) = D2 at *
   have HST := qh hst7
   have HSU := qh hsu
   clear hst7 hsu hE hD2 hst hla hpa hwm hqp hx0 hx6 hown6
   by_cases hz : E = 0
   ·subst hz
    have h1 : Hid (Step w0 w w7 X p (W5.layTo d gen record T b (k + 1)).1) := by
     unfold Hid; rw [HSU.out]; exact ⟨HST.out.1, hkp.out.trans HST.out.2⟩
    have h2 : Hid ((W5.layTo d gen record T b (k + 1)).2 = 0) := by unfold Hid; rw [HSU.out]
    go_wp2
    go_roundw
    case rel => exact ⟨k + 1, by omega, by go_num, h1, h2⟩
    case measure => (simp [intOf]; try omega)
   ·have hfin : Hid (W5.layTo d gen record T b N = (D2, E)) := by
     unfold Hid
     rw [W5.layTo_stop d gen record T b (k + 1) (by rw [HSU.out]; exact hz) N (by omega)]; exact HSU.out
    have hz2 : (E != 0) = true := by rw [bne_iff_ne]; exact hz
    clear hz
    go_wp2
    go_ret
    rw [hfin.out]
    exact ⟨rfl, HST.out.1, hkp.out.trans HST.out.2⟩
  ·obtain rfl : k = N := by omega
   go_wp2
   go_ret
   rw [he.out]
   exact ⟨rfl, hst.out⟩
end
end Go.Proofs.YtnjfioikpajhlaaGreat
namespace Go.Proofs.YtnjfioikpajhlaaGreat
open Go.RowKit
def RowsX (w : World) (X : Nat -> Prop) (v : Value) (ls : List (List UInt8)) : Prop :=
 ∃ vs, Reads w v vs /\ vs.length = ls.length /\ (∀ k, v.ownBlock = some k -> X k) /\ ∀ i (h : i < ls.length), ∃ u, vs[i]? = some u /\ Bs w u ls[i] /\ ∀ k, u.ownBlock = some k -> X k
theorem RowsX.nil (w : World) (X : Nat -> Prop) : RowsX w X (.slice none 0 0) [] := ⟨[], Reads.nil w, rfl, (fun k h => by simp [Value.ownBlock] at h), fun i h => absurd h (Nat.not_lt_zero i)⟩
theorem RowsX.ext {w w' : World} {X : Nat -> Prop} {v : Value} {ls : List (List UInt8)} (h : RowsX w X v ls) (he : Ext w w') : RowsX w' X v ls := by
 obtain ⟨vs, h1, h2, h3, h4⟩ := h
 exact ⟨vs, h1.ext he, h2, h3, fun i hi => let ⟨u, a, b, c⟩ := h4 i hi; ⟨u, a, b.ext he, c⟩⟩
theorem RowsX.keeps {w w' : World} {X : Nat -> Prop} {v : Value} {ls : List (List UInt8)} (h : RowsX w X v ls) (he : Keeps X w w') : RowsX w' X v ls := by
 obtain ⟨vs, h1, h2, h3, h4⟩ := h
 exact ⟨vs, he.reads h1 h3, h2, h3, fun i hi => let ⟨u, a, b, c⟩ := h4 i hi; ⟨u, a, he.bs b c, c⟩⟩
theorem RowsX.mono {w : World} {X Y : Nat -> Prop} {v : Value} {ls : List (List UInt8)} (h : RowsX w X v ls) (hXY : ∀ k, X k -> Y k) : RowsX w Y v ls := by
 obtain ⟨vs, h1, h2, h3, h4⟩ := h
 exact ⟨vs, h1, h2, fun k hk => hXY k (h3 k hk), fun i hi => let ⟨u, a, b, c⟩ := h4 i hi; ⟨u, a, b, fun k hk => hXY k (c k hk)⟩⟩
theorem RowsX.shape {w : World} {X : Nat -> Prop} {v : Value} {ls : List (List UInt8)} (h : RowsX w X v ls) : ls.length <= 9223372036854775807 /\ ∃ a cap, v = .slice a ls.length cap /\ ∀ i (h : i < ls.length), ∃ b off, a = some ⟨b, off, none⟩ /\ X b /\ ∃ u, w.cell? ⟨b, off + i, none⟩ = some u /\ Bs w u ls[i] /\ (∀ k, u.ownBlock = some k -> X k) := by
 obtain ⟨vs, ⟨a, cap, hv, h1, h2, hn, h3, h4⟩, hl, hvX, hr⟩ := h
 unfold maxLen at h2
 rw [hl] at hv h1
 refine ⟨by omega, a, cap, hv, fun i hi => ?_⟩
 rcases h4 with h4 | ⟨b, off, rfl, hc⟩
 ·subst h4; simp at hl; omega
 ·obtain ⟨u, hu, hb, hx⟩ := hr i hi
  exact ⟨b, off, rfl, hvX b (by rw [hv]; rfl), u, hc i u hu, hb, hx⟩
namespace W5
def usedTo (l : List (List UInt8)) (k : Nat) : Nat := ((l.take k).map (fun b => need b.length)).sum
def used (l : List (List UInt8)) : Nat := (l.map (fun b => need b.length)).sum
theorem usedTo_succ (l : List (List UInt8)) (k : Nat) (h : k < l.length) : usedTo l (k + 1) = usedTo l k + need l[k].length := by
 unfold usedTo
 rw [List.take_succ_eq_append_getElem h, List.map_append, List.sum_append]
 simp
theorem usedTo_all (l : List (List UInt8)) : usedTo l l.length = used l := by unfold usedTo used; rw [List.take_length]
theorem usedTo_le (l : List (List UInt8)) (k : Nat) : usedTo l k <= used l := by
 have h : used l = usedTo l k + ((l.drop k).map (fun b => need b.length)).sum := by
  unfold used usedTo
  rw [<- List.sum_append, <- List.map_append, List.take_append_drop]
 omega
theorem len_le_used (l : List (List UInt8)) : l.length <= used l := by
 induction l with
 | nil => exact Nat.zero_le _
 | cons b l ih =>
  have h1 := need_pos b.length
  have : used (b :: l) = need b.length + used l := rfl
  rw [this, List.length_cons]; omega
def begTo (d : D.Dsk) (gen : Nat) (l : List (List UInt8)) : Nat -> D.Dsk × Int
 | 0 => (d, 0)
 | k + 1 => if (begTo d gen l k).2 = 0 then lay (begTo d gen l k).1 gen k (usedTo l k) (l.getD k []) else begTo d gen l k
theorem begTo_stop (d : D.Dsk) (gen : Nat) (l : List (List UInt8)) (k : Nat) (h : (begTo d gen l k).2 ≠ 0) : ∀ j, k <= j -> begTo d gen l j = begTo d gen l k := by
 intro j hj
 induction j with
 | zero => obtain rfl : k = 0 := by omega
           rfl
 | succ j ih =>
  rcases Nat.lt_or_ge j k with h2 | h2
  ·obtain rfl : k = j + 1 := by omega
   rfl
  ·have h3 := ih h2
   rw [<- h3] at h
   rw [<- h3]
   show (if _ then _ else _) = _
   rw [if_neg h]
theorem lay_wait (d : D.Dsk) (gen record at_ : Nat) (b : List UInt8) : (lay d gen record at_ b).1.wait.length <= d.wait.length + need b.length := layTo_wait _ _ _ _ _ _
theorem lay_n (d : D.Dsk) (gen record at_ : Nat) (b : List UInt8) : (lay d gen record at_ b).1.n = d.n := layTo_n _ _ _ _ _ _
theorem begTo_n (d : D.Dsk) (gen : Nat) (l : List (List UInt8)) : ∀ k, (begTo d gen l k).1.n = d.n
 | 0 => rfl
 | k + 1 => by
  unfold begTo
  split
  ·exact (lay_n _ _ _ _ _).trans (begTo_n d gen l k)
  ·exact begTo_n d gen l k
theorem begTo_wait (d : D.Dsk) (gen : Nat) (l : List (List UInt8)) : ∀ k, k <= l.length -> (begTo d gen l k).1.wait.length <= d.wait.length + usedTo l k
 | 0, _ => Nat.le_add_right _ _
 | k + 1, hk => by
  have h := begTo_wait d gen l k (by omega)
  have h2 := usedTo_succ l k hk
  have h3 : l.getD k [] = l[k] := by rw [List.getD_eq_getElem?_getD, List.getElem?_eq_getElem hk]; rfl
  unfold begTo
  split
  ·refine Nat.le_trans (lay_wait _ _ _ _ _) ?_
   rw [h3]; omega
  ·omega
def begin_ (d : D.Dsk) (gen : Nat) (l : List (List UInt8)) : D.Dsk × Int :=
 if (begTo d gen l l.length).2 = 0 then
  if D.flushE (begTo d gen l l.length).1 = 0 then
   if D.writeE (D.flush (begTo d gen l l.length).1) ((gen % 2 : Nat) : Int) (head gen) = 0 then
    (D.flush (D.write (D.flush (begTo d gen l l.length).1) ((gen % 2 : Nat) : Int) (head gen)), D.flushE (D.write (D.flush (begTo d gen l l.length).1) ((gen % 2 : Nat) : Int) (head gen)))
   else (D.write (D.flush (begTo d gen l l.length).1) ((gen % 2 : Nat) : Int) (head gen), D.writeE (D.flush (begTo d gen l l.length).1) ((gen % 2 : Nat) : Int) (head gen))
  else (D.flush (begTo d gen l l.length).1, D.flushE (begTo d gen l l.length).1)
 else begTo d gen l l.length
end W5
section
variable {w0 w wa w1 : World} {X : Nat -> Prop} {p q : Nat} {d : D.Dsk}
theorem begin_any (h : Held w0 w X p d) (hq : w.cell? ⟨q, 0, none⟩ = some (.pointer (some ⟨p, 0, none⟩))) (hqX : X q) (gen : Nat) (hq1 : w.cell? ⟨q, 1, none⟩ = some (.int .u32 (gen : Int))) (hg : gen + 1 < 4294967296)
 (v : Value) (ls : List (List UInt8)) (hv : RowsX w X v ls) (hls : ∀ b ∈ ls, b.length <= 8192) (hu : W5.used ls <= 2047) (hwl : d.wait.length <= 1073600000) :
 Calls Tryz.prog 80 #[.pointer (some ⟨q, 0, none⟩), v] w fun e w' => e = .returned (.int .i64 (W5.begin_ d (gen + 1) ls).2) /\ Step w0 w w' X p (W5.begin_ d (gen + 1) ls).1 := by
 have HD := qh h
 have HQ := qh hq
 have HQ1 := qh hq1
 have HV := qh hv
 have HLS := qh hls
 obtain ⟨hll, a, cap, rfl, hcell⟩ := hv.shape
 have HC := qh hcell
 have hlu := W5.len_le_used ls
 clear hv h hq hls hcell
 have hgi : (gen : Int) + 1 < 4294967296 := by omega
 go_enter Tryz.func80, Tryz.ntmps80
 go_wp2
 go_loopw [6, 19] (fun av iv wr => ∃ k : Nat, k <= ls.length /\ iv = .int .i64 (k : Int) /\ av = .int .i64 (W5.usedTo ls k : Int) /\ Hid (Step w0 w wr X p (W5.begTo d (gen + 1) ls k).1) /\ Hid ((W5.begTo d (gen + 1) ls k).2 = 0)) (fun _ iv _ => ls.length - (intOf iv).toNat)
 case atStart => exact ⟨0, by omega, rfl, rfl, ⟨HD.out, Keeps.refl _ _⟩, rfl⟩
 case round =>
  obtain ⟨k, hk, rfl, rfl, hst, he⟩ := hrel
  have hulk := W5.usedTo_le ls k
  by_cases hlt : k < ls.length
  ·have hlti : (k : Int) < (ls.length : Int) := by omega
   obtain ⟨b, off, rfl, hbX, u, hcu, hbu, huX⟩ := HC.out k hlt
   obtain ⟨a', cap', rfl⟩ := hbu.shape
   have hcu2 := hst.out.2.cell hcu hbX
   have hgd : ls.getD k [] = ls[k] := by rw [List.getD_eq_getElem?_getD, List.getElem?_eq_getElem hlt]; rfl
   have hus := W5.usedTo_succ ls k hlt
   have hsu : W5.begTo d (gen + 1) ls (k + 1) = W5.lay (W5.begTo d (gen + 1) ls k).1 (gen + 1) k (W5.usedTo ls k) ls[k] := by rw [<- hgd]; exact if_pos he.out
   have hdw := W5.begTo_wait d (gen + 1) ls k hk
   have hlb := HLS.out ls[k] (List.getElem_mem hlt)
   have hla := lay_any hst.out.1 (hst.out.2.cell HQ.out hqX) hqX (gen + 1) k (W5.usedTo ls k) _ ls[k] (hst.out.2.bs hbu huX) huX (by omega) (by omega) (by omega) hlb (by omega)
   rw [show ((gen + 1 : Nat) : Int) = (gen : Int) + 1 from rfl] at hla
   have HLA := qh hla
   have HSU := qh hsu
   have HKP := qh hst.out.2
   have hne := need_any (ls[k].length : Int)
   rw [W5.need_nat] at hne
   have hnp := need_17 ls[k].length hlb
   have hulk2 := W5.usedTo_le ls (k + 1)
   clear hla hsu hst he hbu huX hcu hgd
   generalize W5.begTo d (gen + 1) ls k = DK at *
   generalize hLB : ls[k] = LB at *
   have HUS := qh hus
   generalize hUK : W5.usedTo ls k = U at *
   have hUi : (U : Int) <= 2047 := by omega
   have hlbi : (LB.length : Int) <= 8192 := by omega
   clear hLB hUK hus
   go_wp2_with fail
   refine HLA.out.mono ?_
   clear HLA
   rintro e w5 ⟨rfl, hst5⟩
   have HST := qh hst5
   clear hst5
   generalize hE : W5.lay DK.1 (gen + 1) k U LB = DE at *
   clear hE
   obtain ⟨D2, E⟩ := DE
   by_cases hz : E = 0
   ·subst hz
    have h1 : Hid (Step w0 w w5 X p (W5.begTo d (gen + 1) ls (k + 1)).1) := by
     unfold Hid; rw [HSU.out]; exact ⟨HST.out.1, HKP.out.trans HST.out.2⟩
    have h2 : Hid ((W5.begTo d (gen + 1) ls (k + 1)).2 = 0) := by unfold Hid; rw [HSU.out]
    go_wp2_with fail
    refine (hne w5 (by omega) (by omega)).mono ?_
    rintro e w6 ⟨rfl, rfl⟩
    generalize W5.need LB.length = N at *
    have hNi : (N : Int) <= 17 := by omega
    clear hne
    go_wp2
    go_roundw
    case rel => exact ⟨k + 1, by omega, by go_num, by rw [HUS.out]; rfl, h1, h2⟩
    case measure => (simp [intOf]; try omega)
   ·have hfin : Hid (W5.begin_ d (gen + 1) ls = (D2, E)) := by
     unfold Hid W5.begin_
     rw [W5.begTo_stop d (gen + 1) ls (k + 1) (by rw [HSU.out]; exact hz) ls.length (by omega), HSU.out, if_neg hz]
    have hz2 : (E != 0) = true := by rw [bne_iff_ne]; exact hz
    clear hz hne
    go_wp2
    go_ret
    rw [hfin.out]
    exact ⟨rfl, HST.out.1, HKP.out.trans HST.out.2⟩
  ·obtain rfl : k = ls.length := by omega
   have HBG := qh (show W5.begin_ d (gen + 1) ls = _ from by unfold W5.begin_; rw [if_pos he.out])
   have hdw := W5.begTo_wait d (gen + 1) ls ls.length (by omega)
   have hqr := hst.out.2.cell HQ.out hqX
   have HST := qh hst.out
   clear hst he HC
   generalize (W5.begTo d (gen + 1) ls ls.length).1 = D1 at *
   have hfl := held_flush HST.out.1
   have HFL := qh hfl
   clear hfl
   go_wp2_with fail
   refine HFL.out.mono ?_
   clear HFL
   rintro e w5 ⟨rfl, hst5⟩
   have HST5 := qh (show Step w0 w w5 X p _ from ⟨hst5.1, HST.out.2.trans hst5.2⟩)
   clear hst5 HST hqr
   generalize hF : D.flushE D1 = F at *
   have hfw : (D.flush D1).wait.length <= D1.wait.length := by
    unfold D.flush D.goes
    split <;> (try split) <;> (try split) <;> simp
   generalize D.flush D1 = D2 at *
   by_cases hz : F = 0
   ·subst hz
    rw [if_pos rfl] at HBG
    obtain ⟨r, hr⟩ : ∃ r, r = (gen + 1) % 2 := ⟨_, rfl⟩
    have htm : ((gen : Int) + 1).tmod 2 = (r : Int) := by rw [hr, show (gen : Int) + 1 = ((gen + 1 : Nat) : Int) from rfl, Int.ofNat_tmod]; rfl
    have hr2 : (r : Int) <= 1 := by omega
    have hwr : IntKind.i64.wrap (r : Int) = (r : Int) := by rw [IntKind.wrap_i64]; omega
    rw [<- hr] at HBG
    clear hr
    have hhe := fun (w' : World) => head_any (gen + 1) w' hg
    unfold MadeB at hhe
    rw [show ((gen + 1 : Nat) : Int) = (gen : Int) + 1 from rfl] at hhe
    have hwm := fun (wa w1 : World) (v : Value) (hxa : Ext w5 wa) (hx : Ext wa w1) (hs : w1.ownsRow wa.heap.size 5 1 v (W5.head (gen + 1)).length ((W5.head (gen + 1)).map byteVal)) => held_write_made HST5.out.1 hxa hx (r : Int) v _ hs (by omega)
    have hx0 := Ext.of_drew w5
    have hqp := HST5.out.2.cell HQ.out hqX
    have hkp := qh HST5.out.2
    generalize W5.head (gen + 1) = HE at *
    go_wp2_with fail
    go_region_held3 (fun w' => w'.cell? ⟨q, 0, none⟩ = some (.pointer (some ⟨p, 0, none⟩))) (first | exact Ext.cell hx0 hqp | exact Ext.cell hx6 (Ext.cell hx0 hqp) | exact Keeps.cell hst7.2 hqp hqX) (first
     | (go_at_call 88; refine (hhe _).mono ?_; rintro e w6 ⟨v6, rfl, hown6, hx6⟩)
     | (go_at_call 102; refine (hwm _ _ _ hx0 hx6 hown6).mono ?_; rintro e w7 ⟨rfl, hst7⟩))
    have HST7 := qh (show Step w0 w w7 X p _ from ⟨hst7.1, hkp.out.trans hst7.2⟩)
    clear hst7 hwm hhe hqp hkp hx0 hx6 hown6 HST5
    generalize hG : D.writeE D2 (r : Int) HE = G at *
    generalize D.write D2 (r : Int) HE = D3 at *
    by_cases hz : G = 0
    ·subst hz
     rw [if_pos rfl] at HBG
     have hqr := HST7.out.2.cell HQ.out hqX
     have hfl := held_flush HST7.out.1
     have HFL := qh hfl
     clear hfl
     go_wp2_with fail
     refine HFL.out.mono ?_
     clear HFL
     rintro e w8 ⟨rfl, hst8⟩
     go_wp2
     go_ret
     rw [HBG.out]
     exact ⟨rfl, hst8.1, HST7.out.2.trans hst8.2⟩
    ·have hz2 : (G != 0) = true := by rw [bne_iff_ne]; exact hz
     rw [if_neg hz] at HBG
     clear hz
     go_wp2
     go_ret
     rw [HBG.out]
     exact ⟨rfl, HST7.out⟩
   ·have hz2 : (F != 0) = true := by rw [bne_iff_ne]; exact hz
    rw [if_neg hz] at HBG
    clear hz
    go_wp2
    go_ret
    rw [HBG.out]
    exact ⟨rfl, HST5.out⟩
end
end Go.Proofs.YtnjfioikpajhlaaGreat
