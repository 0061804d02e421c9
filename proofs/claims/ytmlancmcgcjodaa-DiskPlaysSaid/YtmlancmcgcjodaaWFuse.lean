/- The walk of jetwaylaw04.DiskFuse: by a fuse just so many writes and flushes are done; the next one isn't, and none behind it. -/
import Derived.Test.YtmlancmcgcjodaaHeld2
import Derived.Test.YtmlancmcgcjodaaPFuse
namespace Go.Proofs.Ytmlancmcgcjodaa
open Go.RowKit

theorem Reads.shape {w : World} {v : Value} {cs : List Value} (h : Reads w v cs) : ∃ a cap, v = .slice a cs.length cap := let ⟨a, cap, hv, _⟩ := h; ⟨a, cap, hv⟩
theorem Reads.length_le {w : World} {v : Value} {cs : List Value} (h : Reads w v cs) : cs.length ≤ 9223372036854775807 := by
  obtain ⟨a, cap, hv, h1, h2, _⟩ := h
  unfold maxLen at h2
  omega
theorem Reads.at {w : World} {a : Option Addr} {n cap : Nat} {cs : List Value} (h : Reads w (.slice a n cap) cs) (j : Nat) (hj : j < cs.length) : ∃ b off, a = some ⟨b, off, none⟩ ∧ w.cell? ⟨b, off + j, none⟩ = some cs[j] := by
  obtain ⟨a', cap', hv, h1, h2, hn, h3, h4⟩ := h
  obtain ⟨rfl, _, rfl⟩ := Value.slice.inj hv
  rcases h4 with rfl | ⟨b, off, rfl, hc⟩
  · simp at hj
  · exact ⟨b, off, rfl, hc j _ (List.getElem?_eq_getElem hj)⟩

theorem info_bool : (Try.prog.info? 4).map (fun i => (i.zero, i.size, i.bytes)) = some (some (.bool false), 1, 1) := by kernel_rfl
theorem info_bool_parts : ∃ i, Try.prog.info? 4 = some i ∧ i.zero = some (.bool false) ∧ i.size = 1 ∧ i.bytes = 1 := info_parts info_bool
/-- Two texts of bytes are told apart. -/
theorem str_ne {a b : List UInt8} (h : a ≠ b) : (⟨a.toArray⟩ : ByteArray) ≠ ⟨b.toArray⟩ := by
  intro e
  injection e with e
  exact h (by simpa using e)

set_option maxRecDepth 100000 in
set_option maxHeartbeats 1600000 in
theorem diskFuse_neg (after : Int) (fv : Value) (fs : List Bool) (keep : Bool) (w : World) (h : after < 0) (h1 : -9223372036854775808 ≤ after) :
    Calls Try.prog 5 #[.int .i64 after, fv, .bool keep] w fun e w' => e = .returned (.bool true) ∧ Ext w w' := by
  go_enter Try.func5, Try.ntmps5
  go_wp2_with fail
  refine (awake4 w).mono ?_
  rintro e w1 ⟨rfl, hx1⟩
  have HX1 := Lib.hid hx1
  clear hx1
  go_wp2_with fail
  refine (held_new 3 w1 (by omega) (by omega)).mono ?_
  rintro e w2 ⟨rfl, H⟩
  generalize w1.heap.size + 1 = p at *
  have HF := Lib.hid (held_fuse H after (by omega))
  clear H
  go_wp2_with fail
  refine HF.out.mono ?_
  clear HF
  rintro e w3 ⟨rfl, hs, _⟩
  have e1 : D.fuseE (D.fresh 3) after = 1 := by unfold D.fuseE; rw [if_pos h]
  have e2 : D.fuse (D.fresh 3) after = D.fresh 3 := by unfold D.fuse; rw [if_pos h]
  rw [e2] at hs
  rw [e1]
  have HD := Lib.hid hs
  clear e1 e2 hs
  go_wp2_with fail
  refine (full_step _ _ _ (Bs.nil w3)).mono ?_
  rintro e w4 ⟨b, rfl, hb, hb2, hbs, hx2⟩
  have HW := Lib.hid (held_write HD.out hx2 0 _ _ hbs (held_full b (Nat.le_refl _) hb hb2) (by simp [D.fresh]))
  clear hb hb2 hbs hx2 HD
  go_wp2_with fail
  refine HW.out.mono ?_
  clear HW
  rintro e w5 ⟨rfl, hs, _⟩
  rw [(D.up_write (d := D.fresh 3) ⟨rfl, rfl⟩ 0 (D.full []) (by decide) (by decide) (full_len _)).1]
  have HXX := Lib.hid (HX1.out.trans hs.ext)
  clear hs
  go_wp2
  go_ret
  exact ⟨rfl, HXX.out⟩

set_option maxRecDepth 100000 in
set_option maxHeartbeats 3200000 in
theorem diskFuse_pos (after : Nat) (fv : Value) (fs : List Bool) (keep : Bool) (w : World) (hfv : Reads w fv (fs.map Value.bool)) (h1 : (after : Int) ≤ 9223372036854775807) :
    Calls Try.prog 5 #[.int .i64 (after : Int), fv, .bool keep] w fun e w' => e = .returned (.bool true) ∧ Ext w w' := by
  have hfl := hfv.length_le
  obtain ⟨fa, fcap, rfl⟩ := hfv.shape
  rw [List.length_map] at *
  have HFV := Lib.hid hfv
  clear hfv
  obtain ⟨ib, hib, hzb0, hzb1, hzb2⟩ := info_bool_parts
  go_enter Try.func5, Try.ntmps5
  go_wp2_with fail
  refine (awake4 w).mono ?_
  rintro e w1 ⟨rfl, hx1⟩
  have HX1 := Lib.hid hx1
  clear hx1
  go_wp2_with fail
  refine (held_new 3 w1 (by omega) (by omega)).mono ?_
  rintro e w2 ⟨rfl, H⟩
  generalize w1.heap.size + 1 = p at *
  have HF := Lib.hid (held_fuse H after h1)
  clear H
  go_wp2_with fail
  refine HF.out.mono ?_
  clear HF
  rintro e w3 ⟨rfl, hs, _⟩
  obtain ⟨e1, hfu⟩ := FuseAt.start after h1
  rw [e1]
  have HD := Lib.hid hs
  have HFU := Lib.hid hfu
  clear e1 hs hfu
  go_wp2
  go_loopw [9, 10] (fun nv iv wr => ∃ i : Nat, ∃ d : D.Dsk, i ≤ fs.length ∧ nv = .int .i64 (d.wait.length : Int) ∧ iv = .int .i64 i ∧ Hid (FuseAt after i d) ∧ Hid (Held w1 wr (fun k => k < w1.heap.size) p d)) (fun _ iv _ => fs.length - (intOf iv).toNat)
  case atStart => exact ⟨0, _, by omega, rfl, rfl, HFU, HD⟩
  case round =>
    obtain ⟨i, d, hil, rfl, rfl, hfu, hH⟩ := hrel
    clear HFU HD
    have hi100 := hfu.out.i100
    have hia := hfu.out.ia
    have hwl := hfu.out.wl
    by_cases hlt : i < fs.length ∧ i < 100
    · obtain ⟨hl1, hl2⟩ := hlt
      have hl1i : (i : Int) < (fs.length : Int) := by omega
      have hl2i : (i : Int) < 100 := by omega
      go_wp2_with fail
      refine (held_write hH.out (Ext.refl _) 7 (.slice none 0 0) [] (Bs.nil _) (by simp [Value.ownBlock]) (by omega)).mono ?_
      rintro e w4 ⟨rfl, hs, _⟩
      rw [hfu.out.bad7.1]
      rw [hfu.out.bad7.2] at hs
      have HW := Lib.hid (held_write hs (Ext.refl _) 1 (.slice none 0 0) [] (Bs.nil _) (by simp [Value.ownBlock]) (by omega))
      clear hs hH
      go_wp2_with fail
      refine HW.out.mono ?_
      clear HW
      rintro e w5 ⟨rfl, hs, _⟩
      rw [hfu.out.bad1.1]
      rw [hfu.out.bad1.2] at hs
      have hH := Lib.hid hs
      clear hs
      go_wp2_with fail
      refine (held_down hH.out).mono ?_
      rintro e w6 ⟨rfl, rfl⟩
      rw [hfu.out.down]
      have hb1 := Bs.lit w5 [UInt8.ofNat i, 1] 5 (by simp [maxLen])
      have hofn : (UInt8.ofNat i).toNat = i := by simp; omega
      simp only [List.map_cons, List.map_nil, byteVal, hofn, List.length_cons, List.length_nil] at hb1
      clear hofn
      have hx1 := Ext.of_alloc w5 (.cells #[.int .u8 (i : Int), .int .u8 1] 5)
      have hX5 := hH.out.ext
      go_wp2_with fail
      refine (full_step _ _ _ hb1).mono ?_
      rintro e w6 ⟨b, rfl, hb, hb2, hbs, hx2⟩
      have hHA := hH.out.all (hx1.trans hx2)
      have hYb : New (fun k => k < w1.heap.size) w5 w6 b := .inr ⟨Nat.le_trans hx1.size hb, hb2⟩
      obtain ⟨Y, hY⟩ : ∃ Y, Y = New (fun k => k < w1.heap.size) w5 w6 := ⟨_, rfl⟩
      rw [← hY] at hHA hYb
      clear hY
      have HA := Lib.hid hHA
      have HB := Lib.hid (show Bs w6 (.slice (some ⟨b, 0, none⟩) 512 512) (D.mark i) from hbs)
      have HYB := Lib.hid hYb
      have HYO := Lib.hid hHA.old
      obtain ⟨fb, fo, rfl, hcf⟩ := (HFV.out.ext (HX1.out.trans hHA.ext)).at i (by rw [List.length_map]; exact hl1)
      rw [List.getElem_map] at hcf
      clear hb1 hx1 hb hb2 hbs hx2 hHA hYb hX5 hH
      cases hfi : fs[i]
      · rw [hfi] at hcf
        have hmod : (i : Int).tmod 3 = ((i % 3 : Nat) : Int) := by rw [Int.ofNat_tmod]; rfl
        by_cases hia2 : i < after
        · have hia2i : (i : Int) < (after : Int) := by omega
          obtain ⟨q1, q2, q3⟩ := hfu.out.write hia2 hl2
          have HC := Lib.hid (held_write_X HA.out ((i % 3 : Nat) : Int) (.slice (some ⟨b, 0, none⟩) 512 512) (D.mark i) HB.out (fun k hk => by
              obtain rfl : b = k := by simpa [Value.ownBlock] using hk
              exact HYB.out) (by omega))
          rw [q1] at HC
          generalize D.write d ((i % 3 : Nat) : Int) (D.mark i) = d1 at *
          have HQ2 := Lib.hid q2
          clear q1 q2
          go_wp2_with fail
          refine HC.out.mono ?_
          clear HC
          rintro e w7 ⟨rfl, hs, _⟩
          obtain ⟨fb', fo', hfe, hcf2⟩ := (HFV.out.ext (HX1.out.trans hs.ext)).at i (by rw [List.length_map]; exact hl1)
          obtain ⟨rfl, rfl, _⟩ := Addr.mk.inj (Option.some.inj hfe)
          rw [List.getElem_map, hfi] at hcf2
          have HD := Lib.hid (hs.less (X := fun k => k < w1.heap.size) HYO.out (fun _ h => h))
          clear hs hcf HA HB HYB HYO hfe
          go_wp2_with fail
          refine (held_waiting HD.out).mono ?_
          rintro e w8 ⟨rfl, rfl⟩
          rw [q3]
          clear hcf2
          go_wp2
          go_roundw
          case rel => exact ⟨i + 1, d1, by omega, by rw [q3]; first | rfl | simp, by go_num, HQ2, HD⟩
          case measure => (simp [intOf]; try omega)
        · obtain rfl : i = after := by omega
          obtain ⟨q1, q2⟩ := hfu.out.writeEnd
          have HC := Lib.hid (held_write_X HA.out ((i % 3 : Nat) : Int) (.slice (some ⟨b, 0, none⟩) 512 512) (D.mark i) HB.out (fun k hk => by
              obtain rfl : b = k := by simpa [Value.ownBlock] using hk
              exact HYB.out) (by omega))
          rw [q1] at HC
          generalize D.write d ((i % 3 : Nat) : Int) (D.mark i) = d1 at *
          have HQ2 := Lib.hid q2
          clear q1 q2
          go_wp2_with fail
          refine HC.out.mono ?_
          clear HC
          rintro e w7 ⟨rfl, hs, hkeep⟩
          have HD := Lib.hid hs
          have HB2 := Lib.hid (hkeep.bs HB.out (fun k hk => by
            obtain rfl : b = k := by simpa [Value.ownBlock] using hk
            exact HYB.out))
          clear hs hkeep hcf HA HB
          have hwn : (d.wait ++ [(((i % 3 : Nat) : Int), D.mark i)]).length = d.wait.length + 1 := by simp
          go_wp2_with fail
          refine (held_down HD.out).mono ?_
          rintro e w8 ⟨rfl, rfl⟩
          rw [HQ2.out.down]
          go_wp2_with fail
          refine (held_waiting HD.out).mono ?_
          rintro e w8 ⟨rfl, rfl⟩
          rw [HQ2.out.wait, hwn]
          have HC := Lib.hid (held_flush HD.out)
          rw [HQ2.out.flush.1, HQ2.out.flush.2] at HC
          go_wp2_with fail
          refine HC.out.mono ?_
          clear HC
          rintro e w8 ⟨rfl, hs, hkeep⟩
          have HB3 := Lib.hid (hkeep.bs HB2.out (fun k hk => by
            obtain rfl : b = k := by simpa [Value.ownBlock] using hk
            exact HYB.out))
          have HC := Lib.hid (held_fuse hs 0 (by omega))
          rw [HQ2.out.fuse.1, HQ2.out.fuse.2] at HC
          clear hs hkeep HB2 HD
          go_wp2_with fail
          refine HC.out.mono ?_
          clear HC
          rintro e w9 ⟨rfl, hs, hkeep⟩
          have HB4 := Lib.hid (hkeep.bs HB3.out (fun k hk => by
            obtain rfl : b = k := by simpa [Value.ownBlock] using hk
            exact HYB.out))
          have HD := Lib.hid hs
          clear hs hkeep HB3
          obtain ⟨W, hW⟩ : ∃ W : Nat, W = d.wait.length + 1 := ⟨_, rfl⟩
          have hWi : ((d.wait.length : Int) + 1 : Int) = (W : Int) := by omega
          have hW100 : W ≤ 101 := by omega
          rw [hWi]
          have HWH := Lib.hid hW
          clear hWi hW
          go_wp2_with (first | (refine wpl_make _ rfl _ _ 24 rfl w9.heap.size 4 ib (.bool false) Try.underlying24 hib hzb0 hzb1 rfl .i64 .i64 (W : Int) (W : Int) W W rfl rfl rfl rfl (by omega) (by rw [hzb2]; omega) (by unfold maxLen; omega) (Nat.le_refl _) ?_; intro w10 hown hxm hgm) | fail)
          have HX10 := Lib.hid hxm
          have HO10 := Lib.hid (show w10.ownsRow w9.heap.size 4 1 (.slice (some ⟨w9.heap.size, 0, none⟩) W W) W ((List.replicate 0 keep ++ List.replicate (W - 0) false).map Value.bool) by rw [List.replicate_zero, List.nil_append, List.map_replicate]; exact hown)
          clear hown hxm hgm
          go_wp2
          go_loopw [13] (fun kv wr => ∃ k : Nat, k ≤ W ∧ kv = .int .i64 k ∧ Hid (wr.ownsRow w9.heap.size 4 1 (.slice (some ⟨w9.heap.size, 0, none⟩) W W) W ((List.replicate k keep ++ List.replicate (W - k) false).map Value.bool)) ∧ Hid (Ext w9 wr)) (fun kv _ => W - (intOf kv).toNat)
          case atStart => exact ⟨0, by omega, rfl, HO10, HX10⟩
          case round =>
            obtain ⟨k, hk, rfl, hown, hx⟩ := hrel
            clear HO10 HX10
            by_cases hkW : k < W
            · have hkWi : (k : Int) < (W : Int) := by omega
              have hcell := hown.out.cellAt k (by omega)
              have hul : k < ((List.replicate k keep ++ List.replicate (W - k) false).map Value.bool).length := by simp; omega
              rw [List.getElem?_eq_getElem hul] at hcell
              generalize ((List.replicate k keep ++ List.replicate (W - k) false).map Value.bool)[k] = u at hcell
              have hfro := hown.out.frozenAt k
              have hst := (hown.out.stored k (.bool keep)).1
              have hset : ((List.replicate k keep ++ List.replicate (W - k) false).map Value.bool).set k (.bool keep) = (List.replicate (k + 1) keep ++ List.replicate (W - (k + 1)) false).map Value.bool := by
                have h2 : W - k = (W - (k + 1)) + 1 := by omega
                rw [← List.map_set, List.set_append_right _ _ (by simp), List.length_replicate, Nat.sub_self, h2, List.replicate_succ, List.set_cons_zero, List.replicate_succ' (n := k)]
                simp
              rw [hset] at hst
              have HST := Lib.hid hst
              have HXS := Lib.hid (hx.out.setCell (p := ⟨w9.heap.size, k, none⟩) (Nat.le_refl _) (.bool keep))
              clear hst hset hown hx hul
              go_wp2
              go_roundw
              case rel => exact ⟨k + 1, by omega, by go_num, HST, HXS⟩
              case measure => (simp [intOf]; try omega)
            · obtain rfl : k = W := by omega
              have hrd := Reads.of_own hown.out (by simp [Value.oneCell'])
              rw [Nat.sub_self, List.replicate_zero, List.append_nil] at hrd
              have hlt := hown.out.lt w9.heap.size rfl
              have HR := Lib.hid (held_restart HD.out hx.out _ (List.replicate k keep) hrd (.inr fun q hq => .inr (by
                obtain rfl : w9.heap.size = q := by simpa [Value.ownBlock] using hq
                exact ⟨Nat.le_refl _, hlt.2⟩)))
              have HB5 := Lib.hid (HB4.out.ext hx.out)
              clear hrd hlt hown hx HB4
              go_wp2_with fail
              refine HR.out.mono ?_
              clear HR
              rintro e w11 ⟨rfl, hs, hkeep⟩
              have HB6 := Lib.hid (hkeep.bs HB5.out (fun k hk => by
                obtain rfl : b = k := by simpa [Value.ownBlock] using hk
                exact HYB.out))
              have HD2 := Lib.hid hs
              clear hs hkeep HB5 HD
              obtain ⟨r1, r2, r3⟩ := HQ2.out.restart (List.replicate k keep) ((i % 3 : Nat) : Int) (by omega) (by omega)
              rw [HWH.out] at HD2 r1 r2 r3
              generalize D.restart d1 _ = d2 at *
              have HG : Hid ((keep = true → D.readB d2 ((i % 3 : Nat) : Int) = D.mark i) ∧ (keep = false → D.readB d2 ((i % 3 : Nat) : Int) ≠ D.mark i)) := by
                refine ⟨fun hk => ?_, fun hk => ?_⟩
                · subst hk; rw [r2]; exact hfu.out.keptAll
                · subst hk; rw [r2]; exact hfu.out.keptNo hl2
              clear r2 HQ2
              have HRD := Lib.hid (held_read HD2.out ((i % 3 : Nat) : Int))
              unfold Red at HRD
              generalize D.readB d2 ((i % 3 : Nat) : Int) = G at *
              have hmod : (i : Int).tmod 3 = ((i % 3 : Nat) : Int) := by rw [Int.ofNat_tmod]; rfl
              go_wp2_with fail
              refine HRD.out.mono ?_
              clear HRD
              rintro e w12 ⟨v, rfl, hown, hx⟩
              rw [r1]
              have hb7 := Bs.of_own hown
              have HB7 := Lib.hid (HB6.out.ext hx)
              have HD3 := Lib.hid (HD2.out.after_ext hx)
              have HXX := Lib.hid (HX1.out.trans HD3.out.ext)
              obtain ⟨va, vc, rfl⟩ := hb7.shape
              have HB8 := Lib.hid hb7
              clear hb7 hown hx HB6 HD2
              obtain ⟨fb', fo', hfe, hcf2⟩ := (HFV.out.ext HXX.out).at i (by rw [List.length_map]; exact hl1)
              obtain ⟨rfl, rfl, _⟩ := Addr.mk.inj (Option.some.inj hfe)
              rw [List.getElem_map, hfi] at hcf2
              clear hfe
              go_wp2_with fail
              refine (held_waiting HD3.out).mono ?_
              rintro e w13 ⟨rfl, rfl⟩
              rw [r3]
              have c1 := HB7.out.toString (P := Try.prog) 31 9 5 Try.underlying31 Try.underlying5 Try.underlying9
              have c2 := HB8.out.toString (P := Try.prog) 31 9 5 Try.underlying31 Try.underlying5 Try.underlying9
              have hmk : Hid (G = D.mark i → keep = true) := fun e => by
                cases keep
                · exact absurd e (HG.out.2 rfl)
                · rfl
              cases keep
              · have hne : (G == D.mark i) = false := by
                  rw [beq_eq_false_iff_ne]; exact HG.out.2 rfl
                clear hmk HG HB7 HB8
                generalize D.mark i = M at *
                go_wp2
                go_ret
                exact ⟨rfl, HXX.out⟩
              · have hG := HG.out.1 rfl
                subst hG
                clear hmk HG HB7 HB8
                go_wp2
                go_ret
                exact ⟨rfl, HXX.out⟩
      · rw [hfi] at hcf
        have hmod : (i : Int).tmod 3 = ((i % 3 : Nat) : Int) := by rw [Int.ofNat_tmod]; rfl
        by_cases hia2 : i < after
        · have hia2i : (i : Int) < (after : Int) := by omega
          obtain ⟨q1, q2, q3⟩ := hfu.out.flush hia2 hl2
          have HC := Lib.hid (held_flush HA.out)
          rw [q1] at HC
          generalize D.flush d = d1 at *
          have HQ2 := Lib.hid q2
          clear q1 q2
          go_wp2_with fail
          refine HC.out.mono ?_
          clear HC
          rintro e w7 ⟨rfl, hs, _⟩
          obtain ⟨fb', fo', hfe, hcf2⟩ := (HFV.out.ext (HX1.out.trans hs.ext)).at i (by rw [List.length_map]; exact hl1)
          obtain ⟨rfl, rfl, _⟩ := Addr.mk.inj (Option.some.inj hfe)
          rw [List.getElem_map, hfi] at hcf2
          have HD := Lib.hid (hs.less (X := fun k => k < w1.heap.size) HYO.out (fun _ h => h))
          clear hs hcf HA HB HYB HYO hfe
          go_wp2_with fail
          refine (held_waiting HD.out).mono ?_
          rintro e w8 ⟨rfl, rfl⟩
          rw [q3]
          clear hcf2
          go_wp2
          go_roundw
          case rel => exact ⟨i + 1, d1, by omega, by rw [q3]; rfl, by go_num, HQ2, HD⟩
          case measure => (simp [intOf]; try omega)
        · obtain rfl : i = after := by omega
          obtain ⟨q1, q2⟩ := hfu.out.flushEnd
          have HC := Lib.hid (held_flush HA.out)
          rw [q1] at HC
          generalize D.flush d = d1 at *
          have HQ2 := Lib.hid q2
          clear q1 q2
          go_wp2_with fail
          refine HC.out.mono ?_
          clear HC
          rintro e w7 ⟨rfl, hs, hkeep⟩
          have HD := Lib.hid hs
          have HB2 := Lib.hid (hkeep.bs HB.out (fun k hk => by
            obtain rfl : b = k := by simpa [Value.ownBlock] using hk
            exact HYB.out))
          clear hs hkeep hcf HA HB
          have hw0 := True.intro
          go_wp2_with fail
          refine (held_down HD.out).mono ?_
          rintro e w8 ⟨rfl, rfl⟩
          rw [HQ2.out.down]
          go_wp2_with fail
          refine (held_waiting HD.out).mono ?_
          rintro e w8 ⟨rfl, rfl⟩
          rw [HQ2.out.wait]
          have HC := Lib.hid (held_flush HD.out)
          rw [HQ2.out.flush.1, HQ2.out.flush.2] at HC
          go_wp2_with fail
          refine HC.out.mono ?_
          clear HC
          rintro e w8 ⟨rfl, hs, hkeep⟩
          have HB3 := Lib.hid (hkeep.bs HB2.out (fun k hk => by
            obtain rfl : b = k := by simpa [Value.ownBlock] using hk
            exact HYB.out))
          have HC := Lib.hid (held_fuse hs 0 (by omega))
          rw [HQ2.out.fuse.1, HQ2.out.fuse.2] at HC
          clear hs hkeep HB2 HD
          go_wp2_with fail
          refine HC.out.mono ?_
          clear HC
          rintro e w9 ⟨rfl, hs, hkeep⟩
          have HB4 := Lib.hid (hkeep.bs HB3.out (fun k hk => by
            obtain rfl : b = k := by simpa [Value.ownBlock] using hk
            exact HYB.out))
          have HD := Lib.hid hs
          clear hs hkeep HB3
          obtain ⟨W, hW⟩ : ∃ W : Nat, W = d.wait.length := ⟨_, rfl⟩
          have hWi : ((d.wait.length : Int) : Int) = (W : Int) := by omega
          have hW100 : W ≤ 101 := by omega
          rw [hWi]
          have HWH := Lib.hid hW
          clear hWi hW
          go_wp2_with (first | (refine wpl_make _ rfl _ _ 24 rfl w9.heap.size 4 ib (.bool false) Try.underlying24 hib hzb0 hzb1 rfl .i64 .i64 (W : Int) (W : Int) W W rfl rfl rfl rfl (by omega) (by rw [hzb2]; omega) (by unfold maxLen; omega) (Nat.le_refl _) ?_; intro w10 hown hxm hgm) | fail)
          have HX10 := Lib.hid hxm
          have HO10 := Lib.hid (show w10.ownsRow w9.heap.size 4 1 (.slice (some ⟨w9.heap.size, 0, none⟩) W W) W ((List.replicate 0 keep ++ List.replicate (W - 0) false).map Value.bool) by rw [List.replicate_zero, List.nil_append, List.map_replicate]; exact hown)
          clear hown hxm hgm
          go_wp2
          go_loopw [13] (fun kv wr => ∃ k : Nat, k ≤ W ∧ kv = .int .i64 k ∧ Hid (wr.ownsRow w9.heap.size 4 1 (.slice (some ⟨w9.heap.size, 0, none⟩) W W) W ((List.replicate k keep ++ List.replicate (W - k) false).map Value.bool)) ∧ Hid (Ext w9 wr)) (fun kv _ => W - (intOf kv).toNat)
          case atStart => exact ⟨0, by omega, rfl, HO10, HX10⟩
          case round =>
            obtain ⟨k, hk, rfl, hown, hx⟩ := hrel
            clear HO10 HX10
            by_cases hkW : k < W
            · have hkWi : (k : Int) < (W : Int) := by omega
              have hcell := hown.out.cellAt k (by omega)
              have hul : k < ((List.replicate k keep ++ List.replicate (W - k) false).map Value.bool).length := by simp; omega
              rw [List.getElem?_eq_getElem hul] at hcell
              generalize ((List.replicate k keep ++ List.replicate (W - k) false).map Value.bool)[k] = u at hcell
              have hfro := hown.out.frozenAt k
              have hst := (hown.out.stored k (.bool keep)).1
              have hset : ((List.replicate k keep ++ List.replicate (W - k) false).map Value.bool).set k (.bool keep) = (List.replicate (k + 1) keep ++ List.replicate (W - (k + 1)) false).map Value.bool := by
                have h2 : W - k = (W - (k + 1)) + 1 := by omega
                rw [← List.map_set, List.set_append_right _ _ (by simp), List.length_replicate, Nat.sub_self, h2, List.replicate_succ, List.set_cons_zero, List.replicate_succ' (n := k)]
                simp
              rw [hset] at hst
              have HST := Lib.hid hst
              have HXS := Lib.hid (hx.out.setCell (p := ⟨w9.heap.size, k, none⟩) (Nat.le_refl _) (.bool keep))
              clear hst hset hown hx hul
              go_wp2
              go_roundw
              case rel => exact ⟨k + 1, by omega, by go_num, HST, HXS⟩
              case measure => (simp [intOf]; try omega)
            · obtain rfl : k = W := by omega
              have hrd := Reads.of_own hown.out (by simp [Value.oneCell'])
              rw [Nat.sub_self, List.replicate_zero, List.append_nil] at hrd
              have hlt := hown.out.lt w9.heap.size rfl
              have HR := Lib.hid (held_restart HD.out hx.out _ (List.replicate k keep) hrd (.inr fun q hq => .inr (by
                obtain rfl : w9.heap.size = q := by simpa [Value.ownBlock] using hq
                exact ⟨Nat.le_refl _, hlt.2⟩)))
              have HB5 := Lib.hid (HB4.out.ext hx.out)
              clear hrd hlt hown hx HB4
              go_wp2_with fail
              refine HR.out.mono ?_
              clear HR
              rintro e w11 ⟨rfl, hs, hkeep⟩
              have HB6 := Lib.hid (hkeep.bs HB5.out (fun k hk => by
                obtain rfl : b = k := by simpa [Value.ownBlock] using hk
                exact HYB.out))
              have HD2 := Lib.hid hs
              clear hs hkeep HB5 HD
              obtain ⟨r1, r2, r3⟩ := HQ2.out.restart (List.replicate k keep) ((i % 3 : Nat) : Int) (by omega) (by omega)
              rw [HWH.out] at HD2 r1 r2 r3
              generalize D.restart d1 _ = d2 at *
              clear r2 HQ2
              have HRD := Lib.hid (held_read HD2.out ((i % 3 : Nat) : Int))
              unfold Red at HRD
              generalize D.readB d2 ((i % 3 : Nat) : Int) = G at *
              have hmod : (i : Int).tmod 3 = ((i % 3 : Nat) : Int) := by rw [Int.ofNat_tmod]; rfl
              go_wp2_with fail
              refine HRD.out.mono ?_
              clear HRD
              rintro e w12 ⟨v, rfl, hown, hx⟩
              rw [r1]
              have hb7 := Bs.of_own hown
              have HB7 := Lib.hid (HB6.out.ext hx)
              have HD3 := Lib.hid (HD2.out.after_ext hx)
              have HXX := Lib.hid (HX1.out.trans HD3.out.ext)
              obtain ⟨va, vc, rfl⟩ := hb7.shape
              have HB8 := Lib.hid hb7
              clear hb7 hown hx HB6 HD2
              obtain ⟨fb', fo', hfe, hcf2⟩ := (HFV.out.ext HXX.out).at i (by rw [List.length_map]; exact hl1)
              obtain ⟨rfl, rfl, _⟩ := Addr.mk.inj (Option.some.inj hfe)
              rw [List.getElem_map, hfi] at hcf2
              clear hfe
              go_wp2_with fail
              refine (held_waiting HD3.out).mono ?_
              rintro e w13 ⟨rfl, rfl⟩
              rw [r3]
              go_wp2
              go_ret
              exact ⟨rfl, HXX.out⟩
    · have hb : decide ((i : Int) < (fs.length : Int)) = true → decide ((i : Int) < 100) = false := by simp; omega
      have hH2 := Lib.hid (hH.out)
      have hdn := hfu.out.down
      have HXX := Lib.hid (HX1.out.trans hH.out.ext)
      clear hH
      by_cases h2 : i < fs.length
      · have h2i : (i : Int) < (fs.length : Int) := by omega
        have h3i : ¬ (i : Int) < 100 := by omega
        clear hb hlt
        go_wp2_with fail
        refine (held_down hH2.out).mono ?_
        rintro e w4 ⟨rfl, rfl⟩
        rw [hdn]
        go_wp2_with fail
        refine (held_waiting hH2.out).mono ?_
        rintro e w4 ⟨rfl, rfl⟩
        go_wp2
        go_ret
        exact ⟨rfl, HXX.out⟩
      · have h2i : ¬ (i : Int) < (fs.length : Int) := by omega
        clear hb hlt
        go_wp2_with fail
        refine (held_down hH2.out).mono ?_
        rintro e w4 ⟨rfl, rfl⟩
        rw [hdn]
        go_wp2_with fail
        refine (held_waiting hH2.out).mono ?_
        rintro e w4 ⟨rfl, rfl⟩
        go_wp2
        go_ret
        exact ⟨rfl, HXX.out⟩

theorem walk_diskFuse (after : Int) (fv : Value) (fs : List Bool) (keep : Bool) (w : World) (h0 : (Lit.int .i64 after).wf = true) (h1 : Reads w fv (fs.map Value.bool)) :
    Calls Try.prog 5 #[.int .i64 after, fv, .bool keep] w fun e w' => e = .returned (.bool true) ∧ Ext w w' := by
  have h2 := wf_i64 h0
  by_cases h : after < 0
  · exact diskFuse_neg after fv fs keep w h h2.1
  · obtain ⟨k, rfl⟩ := Int.eq_ofNat_of_zero_le (by omega : 0 ≤ after)
    exact diskFuse_pos k fv fs keep w h1 h2.2
end Go.Proofs.Ytmlancmcgcjodaa
