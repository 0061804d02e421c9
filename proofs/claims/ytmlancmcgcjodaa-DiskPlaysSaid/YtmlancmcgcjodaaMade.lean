/- jetwaylaw04.made: a disk of six sectors behind some calls. -/
import Derived.Test.YtmlancmcgcjodaaHeld2
import Derived.Test.YtmlancmcgcjodaaActs
import Derived.Test.YtmlancmcgcjodaaRegion
namespace Go.Proofs.Ytmlancmcgcjodaa
open Go.RowKit

def D.act (d : D.Dsk) (x : Act4) : D.Dsk := if x.kind = 0 then D.write d x.i (D.full x.data) else if x.kind = 3 then D.flush d else if x.kind = 6 then D.restart d x.keep else d
/-- A disk of six sectors that is up. -/
structure Six (d : D.Dsk) (k : Nat) : Prop where
  n : d.n = 6
  up : D.Up d
  wl : d.wait.length ≤ k
theorem Six.mono {d : D.Dsk} {k m : Nat} (h : Six d k) (hk : k ≤ m) : Six d m := ⟨h.n, h.up, Nat.le_trans h.wl hk⟩
theorem Six.write {d : D.Dsk} {k : Nat} (h : Six d k) (i : Int) (s : List UInt8) : Six (D.write d i s) (k + 1) := by
  by_cases hb : i < 0 ∨ d.n ≤ i ∨ s.length ≠ 512 ∨ d.down = true
  · have : D.write d i s = d := by
      unfold D.write
      by_cases h1 : i < 0 ∨ d.n ≤ i
      · rw [if_pos h1]
      · rw [if_neg h1]
        by_cases h2 : s.length ≠ 512
        · rw [if_pos h2]
        · rw [if_neg h2, if_pos (by rcases hb with hb | hb | hb | hb <;> first | omega | exact hb | exact absurd hb h2)]
    rw [this]; exact h.mono (by omega)
  · obtain ⟨e1, _⟩ := D.write_not hb
    rw [e1, D.up_goes h.up]
    exact ⟨h.n, h.up, by have := h.wl; simp; omega⟩
theorem Six.flush {d : D.Dsk} {k : Nat} (h : Six d k) : Six (D.flush d) 0 := by
  rw [(D.up_flush h.up).2]
  exact ⟨h.n, h.up, by simp⟩
theorem Six.restart {d : D.Dsk} {k : Nat} (h : Six d k) (ks : List Bool) : Six (D.restart d ks) 0 := ⟨h.n, ⟨rfl, rfl⟩, by simp [D.restart]⟩
theorem Six.act {d : D.Dsk} {k : Nat} (h : Six d k) (x : Act4) : Six (D.act d x) (k + 1) := by
  unfold D.act
  split
  · exact h.write _ _
  · split
    · exact h.flush.mono (by omega)
    · split
      · exact (h.restart _).mono (by omega)
      · exact h.mono (by omega)

set_option maxRecDepth 100000 in
set_option maxHeartbeats 3200000 in
theorem made_any (v : Value) (l : List Act4) (w : World) (h : ActsIn w v l) (hl : l.length ≤ 100) :
    Calls Try.prog 9 #[v] w fun e w' => ∃ p d, e = .returned (.tuple #[.pointer (some ⟨p, 0, none⟩), .bool true]) ∧ Held w w' (fun k => k < w.heap.size) p d ∧ Six d 0 := by
  obtain ⟨a, cap, rfl, _⟩ := h.shape
  have HAS := Lib.hid h
  clear h
  go_enter Try.func9, Try.ntmps9
  go_wp2_with fail
  refine (held_new 6 w (by omega) (by omega)).mono ?_
  rintro e w1 ⟨rfl, H⟩
  generalize w.heap.size + 1 = p at *
  have HD := Lib.hid H
  have HSX := Lib.hid (show Six (D.fresh 6) 0 from ⟨rfl, ⟨rfl, rfl⟩, by simp [D.fresh]⟩)
  clear H
  go_wp2
  go_loopw [6] (fun kv wr => ∃ k : Nat, ∃ d, k ≤ l.length ∧ kv = .int .i64 k ∧ Hid (Six d k) ∧ Hid (Held w wr (fun k => k < w.heap.size) p d)) (fun kv _ => l.length - (intOf kv).toNat)
  case atStart => exact ⟨0, _, by omega, rfl, HSX, HD⟩
  case round =>
    obtain ⟨k, d, hk, rfl, hsx, hH⟩ := hrel
    clear HSX HD
    by_cases hlt : k < l.length
    · have hlti : (k : Int) < (l.length : Int) := by omega
      obtain ⟨b, off, rfl, hact⟩ := HAS.out.at k hlt
      have hwl := hsx.out.wl
      have hnext := Lib.hid (hsx.out.act l[k])
      generalize l[k] = x at *
      obtain ⟨dv, kv, c0, c1, c2, c3, c4, hb5, hk6, _, _⟩ := hact
      have hin : x.keep = [] ∨ ∀ q, kv.ownBlock = some q → q < w.heap.size := hk6.block_lt.imp (fun e => List.map_eq_nil_iff.1 e) id
      replace c0 := hH.out.ext.cell c0
      replace c1 := hH.out.ext.cell c1
      replace c2 := hH.out.ext.cell c2
      replace c3 := hH.out.ext.cell c3
      replace c4 := hH.out.ext.cell c4
      replace hb5 := hb5.ext hH.out.ext
      replace hk6 := hk6.ext hH.out.ext
      have HB := Lib.hid hb5
      have HK := Lib.hid hk6
      clear hb5 hk6
      by_cases h0 : x.kind = 0
      · have hda : D.act d x = D.write d x.i (D.full x.data) := by unfold D.act; rw [if_pos h0]
        rw [hda] at hnext
        rw [h0] at c0
        clear hda h0 HK
        go_wp2_with fail
        have hHeld : Ext wr wr.drew := Ext.of_drew wr
        refine wp_region_C (fun w' => Ext wr w') 12 (by kernel_rfl) ?_
        (refine wpAnyC_pure (i := 0) (oi := ⟨some 30, _, _, _, _, _⟩) (v := ?_) rfl (by kernel_rfl) (by kernel_rfl) (by kernel_rfl) (by kernel_rfl) (fun _ _ _ h => h) (Or.inl ⟨by rfl, ?_⟩) hHeld ?_; rotate_left; (focus (intro w; go_simp; first | done | with_reducible rfl)); try simp only [Act.put, List.setIfInBounds_toArray, List.set_cons_zero, List.set_cons_succ])
        (refine wpAnyC_pure (i := 1) (oi := ⟨some 31, _, _, _, _, _⟩) (v := ?_) rfl (by kernel_rfl) (by kernel_rfl) (by kernel_rfl) (by kernel_rfl) (fun _ _ _ h => h) (Or.inl ⟨by rfl, ?_⟩) hHeld ?_; rotate_left; (focus (intro w; go_simp; first | done | with_reducible rfl)); try simp only [Act.put, List.setIfInBounds_toArray, List.set_cons_zero, List.set_cons_succ])
        (refine wpAnyC_pure (i := 2) (oi := ⟨some 32, _, _, _, _, _⟩) (v := ?_) rfl (by kernel_rfl) (by kernel_rfl) (by kernel_rfl) (by kernel_rfl) (fun _ _ _ h => h) (Or.inl ⟨by rfl, ?_⟩) hHeld ?_; rotate_left; (focus (intro w; go_simp; first | done | with_reducible rfl)); try simp only [Act.put, List.setIfInBounds_toArray, List.set_cons_zero, List.set_cons_succ])
        (refine wpAnyC_take [4, 5, 12] (i := 3) (oi := ⟨some 33, _, _, _, _, _⟩) (v := ?_) rfl (by kernel_rfl) (by kernel_rfl) (by kernel_rfl) (by kernel_rfl) (fun _ _ _ h => h) (Or.inl ⟨by rfl, ?_⟩) hHeld ?_; rotate_left; (focus (intro w hSw; (try obtain ⟨hSw1, hSw2⟩ := hSw); go_simp; first | done | with_reducible rfl)); try simp only [Act.put, List.setIfInBounds_toArray, List.set_cons_zero, List.set_cons_succ])
        (refine wpAnyC_take [5, 12] (i := 4) (oi := ⟨some 34, _, _, _, _, _⟩) (v := ?_) rfl (by kernel_rfl) (by kernel_rfl) (by kernel_rfl) (by kernel_rfl) (fun _ _ _ h => h) (Or.inl ⟨by rfl, ?_⟩) hHeld ?_; rotate_left; (focus (intro w hSw; (try obtain ⟨hSw1, hSw2⟩ := hSw); go_simp; first | done | with_reducible rfl)); try simp only [Act.put, List.setIfInBounds_toArray, List.set_cons_zero, List.set_cons_succ])
        (refine wpAnyC_take [12] (i := 5) (oi := ⟨some 35, _, _, _, _, _⟩) (v := ?_) rfl (by kernel_rfl) (by kernel_rfl) (by kernel_rfl) (by kernel_rfl) (fun _ _ _ h => h) (Or.inl ⟨by rfl, ?_⟩) hHeld ?_; rotate_left; (focus (intro w hSw; (have hc1 := hSw.cell c1); go_simp; first | done | with_reducible rfl)); try simp only [Act.put, List.setIfInBounds_toArray, List.set_cons_zero, List.set_cons_succ])
        (refine wpAnyC_pure (i := 6) (oi := ⟨some 36, _, _, _, _, _⟩) (v := ?_) rfl (by kernel_rfl) (by kernel_rfl) (by kernel_rfl) (by kernel_rfl) (fun _ _ _ h => h) (Or.inl ⟨by rfl, ?_⟩) hHeld ?_; rotate_left; (focus (intro w; go_simp; first | done | with_reducible rfl)); try simp only [Act.put, List.setIfInBounds_toArray, List.set_cons_zero, List.set_cons_succ])
        (refine wpAnyC_pure (i := 7) (oi := ⟨some 37, _, _, _, _, _⟩) (v := ?_) rfl (by kernel_rfl) (by kernel_rfl) (by kernel_rfl) (by kernel_rfl) (fun _ _ _ h => h) (Or.inl ⟨by rfl, ?_⟩) hHeld ?_; rotate_left; (focus (intro w; go_simp; first | done | with_reducible rfl)); try simp only [Act.put, List.setIfInBounds_toArray, List.set_cons_zero, List.set_cons_succ])
        (refine wpAnyC_take [9, 10, 11, 12] (i := 8) (oi := ⟨some 38, _, _, _, _, _⟩) (v := ?_) rfl (by kernel_rfl) (by kernel_rfl) (by kernel_rfl) (by kernel_rfl) (fun _ _ _ h => h) (Or.inl ⟨by rfl, ?_⟩) hHeld ?_; rotate_left; (focus (intro w hSw; (try obtain ⟨hSw1, hSw2⟩ := hSw); go_simp; first | done | with_reducible rfl)); try simp only [Act.put, List.setIfInBounds_toArray, List.set_cons_zero, List.set_cons_succ])
        (refine wpAnyC_take [10, 11, 12] (i := 9) (oi := ⟨some 39, _, _, _, _, _⟩) (v := ?_) rfl (by kernel_rfl) (by kernel_rfl) (by kernel_rfl) (by kernel_rfl) (fun _ _ _ h => h) (Or.inl ⟨by rfl, ?_⟩) hHeld ?_; rotate_left; (focus (intro w hSw; (try obtain ⟨hSw1, hSw2⟩ := hSw); go_simp; first | done | with_reducible rfl)); try simp only [Act.put, List.setIfInBounds_toArray, List.set_cons_zero, List.set_cons_succ])
        (refine wpAnyC_take [11, 12] (i := 10) (oi := ⟨some 40, _, _, _, _, _⟩) (v := ?_) rfl (by kernel_rfl) (by kernel_rfl) (by kernel_rfl) (by kernel_rfl) (fun _ _ _ h => h) (Or.inl ⟨by rfl, ?_⟩) hHeld ?_; rotate_left; (focus (intro w hSw; (have hc3 := hSw.cell c3); go_simp; first | done | with_reducible rfl)); try simp only [Act.put, List.setIfInBounds_toArray, List.set_cons_zero, List.set_cons_succ])
        refine wpAnyC_one (i := 11) (oi := ⟨some 41, _, _, _, _, _⟩) rfl (by kernel_rfl) (by decide) (fun K hK => ?_)
        rw [if_pos (by rfl)]
        go_simp
        refine (full_step _ _ _ (HB.out.ext hHeld)).mono ?_
        rintro e w2 ⟨bb, rfl, hb, hb2, hbs, hx2⟩
        refine hK.out _ _ (hHeld.trans hx2) ?_
        clear hK K
        try simp only [Act.put, List.setIfInBounds_toArray, List.set_cons_zero, List.set_cons_succ]
        have HW := Lib.hid (held_write hH.out (hHeld.trans hx2) x.i _ _ hbs (held_full bb hHeld.size hb hb2) (by omega))
        clear hb hb2 hbs hx2 hHeld
        refine wpAnyC_c (oi := ⟨some 42, _, _, _, _, _⟩) rfl (by kernel_rfl) (fun K hK => ?_)
        rw [if_pos (by rfl)]
        go_simp
        refine HW.out.mono ?_
        clear HW
        rintro e w3 ⟨rfl, hs, _⟩
        refine hK.out _ _ ?_
        clear hK K
        try simp only [Act.put, List.setIfInBounds_toArray, List.set_cons_zero, List.set_cons_succ]
        refine wpAny_done (by kernel_rfl) ?_ _
        have HD9 := Lib.hid hs
        clear hs
        go_wp2
        go_roundw
        case rel => exact ⟨k + 1, _, by omega, by go_num, hnext, HD9⟩
        case measure => (simp [intOf]; try omega)
      · by_cases h3 : x.kind = 3
        · have hda : D.act d x = D.flush d := by unfold D.act; rw [if_neg h0, if_pos h3]
          rw [hda] at hnext
          rw [h3] at c0
          clear hda h0 h3 HK HB
          go_wp2_with fail
          refine (held_flush hH.out).mono ?_
          rintro e w2 ⟨rfl, hs, _⟩
          have HD9 := Lib.hid hs
          clear hs
          go_wp2
          go_roundw
          case rel => exact ⟨k + 1, _, by omega, by go_num, hnext, HD9⟩
          case measure => (simp [intOf]; try omega)
        · by_cases h6 : x.kind = 6
          · have hda : D.act d x = D.restart d x.keep := by unfold D.act; rw [if_neg h0, if_neg h3, if_pos h6]
            rw [hda] at hnext
            rw [h6] at c0
            have HR := Lib.hid (held_restart hH.out (Ext.refl _) kv x.keep HK.out (hin.imp id (fun hq q e => .inl (hq q e))))
            clear hda h0 h3 h6 HK HB
            go_wp2_with fail
            refine HR.out.mono ?_
            clear HR
            rintro e w2 ⟨rfl, hs, _⟩
            have HD9 := Lib.hid hs
            clear hs
            go_wp2
            go_roundw
            case rel => exact ⟨k + 1, _, by omega, by go_num, hnext, HD9⟩
            case measure => (simp [intOf]; try omega)
          · have hda : D.act d x = d := by unfold D.act; rw [if_neg h0, if_neg h3, if_neg h6]
            rw [hda] at hnext
            have b0 : (x.kind == 0) = false := by simpa using h0
            have b3 : (x.kind == 3) = false := by simpa using h3
            have b6 : (x.kind == 6) = false := by simpa using h6
            clear hda h0 h3 h6 HK HB
            go_wp2
            go_roundw
            case rel => exact ⟨k + 1, _, by omega, by go_num, hnext, hH⟩
            case measure => (simp [intOf]; try omega)
    · have hlti : ¬ (k : Int) < (l.length : Int) := by omega
      have hf := D.up_flush hsx.out.up
      have hsf := Lib.hid hsx.out.flush
      have hdn := hsx.out.up.1
      clear hlt
      go_wp2_with fail
      refine (held_down hH.out).mono ?_
      rintro e w2 ⟨rfl, rfl⟩
      rw [hdn]
      go_wp2_with fail
      refine (held_flush hH.out).mono ?_
      rintro e w2 ⟨rfl, hs, _⟩
      rw [hf.1]
      have HD9 := Lib.hid hs
      clear hs hf
      go_wp2_with fail
      refine (held_waiting HD9.out).mono ?_
      rintro e w3 ⟨rfl, rfl⟩
      have hz : ((D.flush d).wait.length : Int) = 0 := by have := hsf.out.wl; omega
      rw [hz]
      clear hz
      go_wp2
      go_ret2
      exact ⟨_, _, rfl, HD9.out, hsf.out⟩
end Go.Proofs.Ytmlancmcgcjodaa

