/- jetwaylaw05.tells: a log tells just what the document's does. (Printed by tools/mktells5.py.) -/
import Derived.Test.YtmcmocakfhedfaaRefH
import Derived.Test.YtmcmocakfhedfaaTells5
import Derived.Test.YtmcmocakfhedfaaWalU
namespace Go.Proofs.Ytmcmocakfhedfaa
open Go.RowKit

/-- Rows of bytes, whatever they hold. -/
structure Shp (w : World) (base : Nat) (v : Value) (vs : List Value) (ns : List Nat) : Prop where
  row : w.ownsRow base 31 1 v ns.length vs
  len : vs.length = ns.length
  each : ∀ i (h : i < ns.length), ∃ u, vs[i]? = some u ∧ ∃ l : List UInt8, l.length = ns[i] ∧ w.ownsRow base 5 1 u ns[i] (l.map byteVal)
theorem Shp.of_rows {w : World} {base : Nat} {v : Value} {vs : List Value} {ls : List (List UInt8)} (h : RowsO w base v vs ls) : Shp w base v vs (ls.map List.length) := by
  refine ⟨by rw [List.length_map]; exact h.row, by rw [List.length_map]; exact h.len, fun i hi => ?_⟩
  rw [List.length_map] at hi
  obtain ⟨u, h1, h2⟩ := h.each i hi
  exact ⟨u, h1, ls[i], by rw [List.getElem_map], by rw [List.getElem_map]; exact h2⟩
theorem Shp.ext {w w' : World} {base : Nat} {v : Value} {vs : List Value} {ns : List Nat} (h : Shp w base v vs ns) (hx : Ext w w') : Shp w' base v vs ns :=
  ⟨hx.keptOwn h.row, h.len, fun i hi => let ⟨u, a, l, b, c⟩ := h.each i hi; ⟨u, a, l, b, hx.keptOwn c⟩⟩
theorem Shp.poke {w : World} {base : Nat} {v : Value} {vs : List Value} {ns : List Nat} (h : Shp w base v vs ns) {g n cap : Nat} {l0 : List UInt8} (ho : w.ownsRow base 5 1 (.slice (some ⟨g, 0, none⟩) n cap) n (l0.map byteVal)) (k : Nat) (x : UInt8) :
    Shp (w.setCell ⟨g, k, none⟩ (byteVal x)) base v vs ns := by
  obtain ⟨cur, fr, hg⟩ := own_at ho (k := g) rfl
  have hm : Mod (fun k => k = g) w (w.setCell ⟨g, k, none⟩ (byteVal x)) := Mod.setCell w _ _ rfl
  refine ⟨ownsRow_mod h.row hm (fun q hq e => ?_), h.len, fun i hi => ?_⟩
  · subst e
    obtain ⟨c2, f2, h2⟩ := own_at h.row hq
    rw [hg] at h2
    have h3 : (5 : Nat) = 31 := by injection (Option.some.inj h2)
    exact absurd h3 (by decide)
  · obtain ⟨u, a, l, b, c⟩ := h.each i hi
    refine ⟨u, a, ?_⟩
    rcases c.2 with ⟨h1, h0⟩ | ⟨g2, cp2, cur2, h1, _⟩
    · exact ⟨l, b, ownsRow_mod c hm (fun q hq e => by rw [h1] at hq; simp [Value.ownBlock] at hq)⟩
    · subst h1
      by_cases he : g2 = g
      · subst he
        refine ⟨l.set k x, by rw [List.length_set]; exact b, ?_⟩
        have := (c.stored k (byteVal x)).1
        rw [← List.map_set] at this
        exact this
      · exact ⟨l, b, ownsRow_mod c hm (fun q hq e => by simp [Value.ownBlock] at hq; omega)⟩

set_option maxRecDepth 100000 in
set_option maxHeartbeats 6400000 in
theorem tells5 {w0 w : World} {X : Nat → Prop} {p q : Nat} {L : W5.Lg} {r : Ref4} {sv wv lv : Value} (h : Logd w0 w X p q L) (hl : RefL w X L r sv wv lv) :
    Calls Try.prog 39 #[.pointer (some ⟨p, 0, none⟩), .pointer (some ⟨q, 0, none⟩), lgv r sv wv L.gen lv L.cl] w fun e w' => e = .returned (.bool true) ∧ Ext w w' := by
  have HL := Lib.hid h
  have HR := Lib.hid hl
  have hok := h.ok
  have hn1 := hok.n1
  have hn2 := hok.n2
  have hal := W5.area_le L.d hn2
  have hfit := h.fit
  have hgn := h.gen
  have hll := W5.len_le_used L.recs
  have hgood : W5.Good L := ⟨hn1, hn2, hfit, h.len, hgn⟩
  have HROOM := Lib.hid (fun (v : World) (hx : Ext w v) => logd_room (h.after hx))
  have HGEN := Lib.hid (fun (v : World) (hx : Ext w v) => logd_generation (h.after hx))
  have HREC := Lib.hid (fun (v : World) (hx : Ext w v) => records_any (h.after hx))
  have HRR := Lib.hid (fun (v : World) (hx : Ext w v) => refRoom L r sv wv lv hl.at_.safe.any hl.at_.wait.any hl.rel.n hgood v (Reads.of_own (hx.keptOwn hl.row) (str_one _)))
  have HTEL := Lib.hid (fun (v : World) (hx : Ext w v) => tells4 (h.held.after_ext hx) (hl.at_.ext hx) hl.rel)
  have HROW := Lib.hid (fun (v : World) (hx : Ext w v) => Reads.of_own (hx.keptOwn hl.row) (str_one _))
  have HLEN := Lib.hid h.len
  have HOLD := Lib.hid h.held.ext.size
  obtain ⟨sa, sn, sc, hsv⟩ := hl.at_.safe.any
  obtain ⟨wa, wn, wc', hwv⟩ := hl.at_.wait.any
  subst hsv
  subst hwv
  obtain ⟨la, lc, rfl⟩ := str_shape (Reads.of_own hl.row (str_one _))
  obtain ⟨d, gen, ls, cl⟩ := L
  simp only at hal hfit hgn hll HROOM HGEN HREC HRR HTEL HROW HLEN HR HL
  unfold lgv at HRR ⊢
  unfold rv at HTEL
  try simp only at HRR ⊢
  have hx1 := Ext.of_alloc w (.cells #[.int .i64 r.n, .slice sa sn sc, .slice wa wn wc', .bool r.armed, .bool r.down, .int .i64 r.after, .int .u32 (gen : Int), .slice la ls.length lc, .bool cl] 63)
  have hbx := fun (v : World) hx => one_box w #[.int .i64 r.n, .slice sa sn sc, .slice wa wn wc', .bool r.armed, .bool r.down, .int .i64 r.after, .int .u32 (gen : Int), .slice la ls.length lc, .bool cl] 63 (v := v) hx
  have hgi : (gen : Int) < 4294967296 := by omega
  generalize hU : W5.used ls = U at *
  generalize hA : W5.area d = A at *
  have hU1 : (U : Int) ≤ 2047 := by omega
  have hA1 : (A : Int) ≤ 2047 := by omega
  have hbn : (((A : Int) - (U : Int)) != ((A : Int) - (U : Int))) = false := by simp
  have hll2 : ls.length ≤ 2047 := by omega
  clear h hl hok hn1 hn2 hgood hgn hll hU hA hfit
  go_enter Try.func39, Try.ntmps39
  go_upto_region 1 with (fail)
  generalize w.alloc (.cells #[.int .i64 r.n, .slice sa sn sc, .slice wa wn wc', .bool r.armed, .bool r.down, .int .i64 r.after, .int .u32 (gen : Int), .slice la ls.length lc, .bool cl] 63) = w1 at *
  have HX1 := Lib.hid hx1
  have HC9 : Hid (∀ v : World, v.heap[w.heap.size]? = some (.cells #[.int .i64 r.n, .slice sa sn sc, .slice wa wn wc', .bool r.armed, .bool r.down, .int .i64 r.after, .int .u32 (gen : Int), .slice la ls.length lc, .bool cl] 63 (0, 0)) → v.cell? ⟨w.heap.size, 0, none⟩ = some (.int .i64 r.n) ∧ v.cell? ⟨w.heap.size, 1, none⟩ = some (.slice sa sn sc) ∧ v.cell? ⟨w.heap.size, 2, none⟩ = some (.slice wa wn wc') ∧ v.cell? ⟨w.heap.size, 3, none⟩ = some (.bool r.armed) ∧ v.cell? ⟨w.heap.size, 4, none⟩ = some (.bool r.down) ∧ v.cell? ⟨w.heap.size, 5, none⟩ = some (.int .i64 r.after) ∧ v.cell? ⟨w.heap.size, 6, none⟩ = some (.int .u32 (gen : Int)) ∧ v.cell? ⟨w.heap.size, 7, none⟩ = some (.slice la ls.length lc) ∧ v.cell? ⟨w.heap.size, 8, none⟩ = some (.bool cl)) := fun v hv => by
    obtain ⟨c0, c1, c2, c3, c4, c5, c6, c7, c8, _⟩ := nine_facts hv
    exact ⟨c0, c1, c2, c3, c4, c5, c6, c7, c8⟩
  have HBX := Lib.hid hbx
  clear hbx
  obtain ⟨c0, c1, c2, c3, c4, c5, c6, c7, c8⟩ := HC9.out w1 (HBX.out w1 (Ext.refl w1))
  have hx0 := Ext.of_drew w1
  go_wp2_with fail
  go_region_held3 (fun v => v.cell? ⟨w.heap.size, 0, none⟩ = some (.int .i64 r.n) ∧ v.cell? ⟨w.heap.size, 1, none⟩ = some (.slice sa sn sc) ∧ v.cell? ⟨w.heap.size, 2, none⟩ = some (.slice wa wn wc') ∧ v.cell? ⟨w.heap.size, 3, none⟩ = some (.bool r.armed) ∧ v.cell? ⟨w.heap.size, 4, none⟩ = some (.bool r.down) ∧ v.cell? ⟨w.heap.size, 5, none⟩ = some (.int .i64 r.after) ∧ v.cell? ⟨w.heap.size, 6, none⟩ = some (.int .u32 (gen : Int)) ∧ v.cell? ⟨w.heap.size, 7, none⟩ = some (.slice la ls.length lc) ∧ v.cell? ⟨w.heap.size, 8, none⟩ = some (.bool cl)) (first | exact HC9.out _ (HBX.out _ hx0) | exact HC9.out _ (HBX.out _ (hx0.trans hx3)) | exact HC9.out _ (HBX.out _ ((hx0.trans hx3).trans hx4))) (first
    | (go_at_call 18; refine (HROOM.out _ (HX1.out.trans hx0)).mono ?_; rintro e w3 ⟨rfl, hx3⟩)
    | (go_at_call 57; refine (HRR.out _ (HX1.out.trans (hx0.trans hx3))).mono ?_; rintro e w4 ⟨rfl, hx4⟩)
    | (go_at_call 23; refine (HGEN.out _ (HX1.out.trans ((hx0.trans hx3).trans hx4))).mono ?_; rintro e w5 ⟨rfl, rfl⟩))
  have HX4 := Lib.hid ((hx0.trans hx3).trans hx4)
  clear hx0 hx3 hx4 hx1 hbn c0 c1 c2 c3 c4 c5 c6 c7 c8 hgi HROOM HRR HGEN
  go_wp2_with fail
  refine (HREC.out _ (HX1.out.trans HX4.out)).mono ?_
  rintro e w6 ⟨gv, vs, rfl, hro, hx6⟩
  have HBS := Lib.hid (show w.heap.size ≤ w4.heap.size from (HX1.out.trans HX4.out).size)
  generalize w4.heap.size = B0 at *
  have HX6 := Lib.hid ((HX1.out.trans HX4.out).trans hx6)
  have HB6 := Lib.hid (HBX.out w6 (HX4.out.trans hx6))
  have HSH := Lib.hid (Shp.of_rows hro)
  have HTX : Hid (∀ v : World, Ext w6 v → Calls Try.prog 21 #[gv] v fun e w' => ∃ v', e = .returned v' ∧ w'.ownsRow v.heap.size 9 1 v' ls.length (ls.map strV) ∧ Ext v w') := fun v hx => texts_any gv ls v ((hro.ext hx).rows (X := fun _ => True) (fun _ _ _ => trivial)) (by omega)
  obtain ⟨ga, gc, rfl⟩ : ∃ ga gc, gv = .slice ga ls.length gc := by
    rcases own_shape hro.row with ⟨a, c, h1, h2⟩ | ⟨g, c, h1, _⟩
    · exact ⟨a, c, by rw [h1, h2]⟩
    · exact ⟨_, c, h1⟩
  clear hro hx6 HX4 HX1 HBX
  have hx0 := Ext.of_drew w6
  obtain ⟨c0, c1, c2, c3, c4, c5, c6, c7, c8⟩ := HC9.out w6 HB6.out
  dsimp only
  go_wp2_with fail
  go_region_held3 (fun v => v.cell? ⟨w.heap.size, 0, none⟩ = some (.int .i64 r.n) ∧ v.cell? ⟨w.heap.size, 1, none⟩ = some (.slice sa sn sc) ∧ v.cell? ⟨w.heap.size, 2, none⟩ = some (.slice wa wn wc') ∧ v.cell? ⟨w.heap.size, 3, none⟩ = some (.bool r.armed) ∧ v.cell? ⟨w.heap.size, 4, none⟩ = some (.bool r.down) ∧ v.cell? ⟨w.heap.size, 5, none⟩ = some (.int .i64 r.after) ∧ v.cell? ⟨w.heap.size, 6, none⟩ = some (.int .u32 (gen : Int)) ∧ v.cell? ⟨w.heap.size, 7, none⟩ = some (.slice la ls.length lc) ∧ v.cell? ⟨w.heap.size, 8, none⟩ = some (.bool cl)) (first | exact HC9.out _ (blk_mod (F := fun _ => False) HB6.out (Mod.of_ext hx0) (fun h => h)) | exact HC9.out _ (blk_mod (F := fun _ => False) HB6.out (Mod.of_ext (hx0.trans hx7)) (fun h => h)) | exact HC9.out _ (blk_mod (F := fun _ => False) HB6.out (Mod.of_ext ((hx0.trans hx7).trans hx8)) (fun h => h))) (first
    | (go_at_call 21; refine (HTX.out _ hx0).mono ?_; rintro e w7 ⟨tv, rfl, ho7, hx7⟩)
    | (go_at_call 20; refine (same_any tv (.slice la ls.length lc) ls ls _ (Reads.of_own ho7 (str_one _)) (HROW.out _ (HX6.out.trans (hx0.trans hx7)))).mono ?_; rintro e w8 ⟨rfl, hx8⟩))
  have HX8 := Lib.hid (HX6.out.trans ((hx0.trans hx7).trans hx8))
  have HB8 := Lib.hid (blk_mod (F := fun _ => False) HB6.out (Mod.of_ext ((hx0.trans hx7).trans hx8)) (fun h => h))
  have HS8 := Lib.hid (HSH.out.ext ((hx0.trans hx7).trans hx8))
  clear hx0 hx7 hx8 ho7 HX6 HB6 HSH HTX c0 c1 c2 c3 c4 c5 c6 c7 c8
  have hlsi : (ls.length : Int) ≤ 2047 := by omega
  go_wp2_with fail
  go_loopw [9] (fun iv wr => ∃ k : Nat, k ≤ ls.length ∧ iv = .int .i64 (k : Int) ∧ Hid (Shp wr B0 (.slice ga ls.length gc) vs (ls.map List.length)) ∧ Hid (Ext w wr) ∧ Hid (wr.heap[w.heap.size]? = some (.cells #[.int .i64 r.n, .slice sa sn sc, .slice wa wn wc', .bool r.armed, .bool r.down, .int .i64 r.after, .int .u32 (gen : Int), .slice la ls.length lc, .bool cl] 63 (0, 0)))) (fun iv _ => ls.length - (intOf iv).toNat)
  case atStart => exact ⟨0, by omega, rfl, HS8, HX8, HB8⟩
  case round =>
    obtain ⟨k, hk, rfl, hs, hx, hb⟩ := hrel
    clear HS8 HX8 HB8
    by_cases hlt : k < ls.length
    · have hlti : (k : Int) < (ls.length : Int) := by omega
      have hkl : k < (ls.map List.length).length := by rw [List.length_map]; exact hlt
      obtain ⟨g0, rfl⟩ : ∃ g0, ga = some ⟨g0, 0, none⟩ := by
        rcases own_shape hs.out.row with ⟨a, c, h1, h2⟩ | ⟨g, c, h1, _⟩
        · rw [List.length_map] at h2; omega
        · exact ⟨g, (Value.slice.inj h1).1⟩
      have hrow := hs.out.row
      have hvl := hs.out.len
      have hvk : k < vs.length := by omega
      obtain ⟨u, hu, l0, hl0, hou⟩ := hs.out.each k hkl
      have hN1 : (ls.map List.length)[k] ≤ 8192 := by rw [List.getElem_map]; exact HLEN.out _ (List.getElem_mem hlt)
      obtain ⟨N, hN⟩ : ∃ N, N = (ls.map List.length)[k] := ⟨_, rfl⟩
      rw [← hN] at hN1
      have hNi : (N : Int) ≤ 8192 := by omega
      have HEA : Hid (∀ wr : World, Shp wr B0 (.slice (some ⟨g0, 0, none⟩) ls.length gc) vs (ls.map List.length) → wr.cell? ⟨g0, k, none⟩ = some u ∧ ∃ l : List UInt8, l.length = N ∧ wr.ownsRow B0 5 1 u N (l.map byteVal)) := by
        intro wr hw
        have hr2 := hw.row
        rw [List.length_map] at hr2
        have h1 := hr2.cellAt k (by omega)
        obtain ⟨u2, hu2, l2, hl2, ho2⟩ := hw.each k hkl
        rw [hu] at hu2
        obtain rfl := Option.some.inj hu2
        rw [hN]
        exact ⟨h1.trans hu, l2, hl2, ho2⟩
      obtain ⟨ua, uc, rfl⟩ : ∃ ua uc, u = .slice ua N uc := by
        rcases own_shape hou with ⟨a, c, h1, h2⟩ | ⟨g, c, h1, _⟩
        · exact ⟨a, c, by rw [h1, hN, h2]⟩
        · exact ⟨_, c, by rw [hN]; exact h1⟩
      clear hrow hvl hvk hu hl0 hou hN hkl
      go_wp2_with fail
      go_loopw [10] (fun jv wr => ∃ j : Nat, j ≤ N ∧ jv = .int .i64 (j : Int) ∧ Hid (Shp wr B0 (.slice (some ⟨g0, 0, none⟩) ls.length gc) vs (ls.map List.length)) ∧ Hid (Ext w wr) ∧ Hid (wr.heap[w.heap.size]? = some (.cells #[.int .i64 r.n, .slice sa sn sc, .slice wa wn wc', .bool r.armed, .bool r.down, .int .i64 r.after, .int .u32 (gen : Int), .slice la ls.length lc, .bool cl] 63 (0, 0)))) (fun jv _ => N - (intOf jv).toNat)
      case atStart => exact ⟨0, by omega, rfl, hs, hx, hb⟩
      case round =>
        clear hs hx hb
        obtain ⟨j, hj, rfl, hs, hx, hb⟩ := hrel
        obtain ⟨ck, l0, hl0, hou⟩ := HEA.out _ hs.out
        by_cases hltj : j < N
        · have hltji : (j : Int) < (N : Int) := by omega
          obtain ⟨g, rfl, hgB⟩ : ∃ g, ua = some ⟨g, 0, none⟩ ∧ B0 ≤ g := by
            rcases own_shape hou with ⟨a, c, h1, h2⟩ | ⟨g, c, h1, _, h3⟩
            · omega
            · exact ⟨g, (Value.slice.inj h1).1, h3⟩
          have hcell := hou.cellAt j (by omega)
          have hjl : j < (l0.map byteVal).length := by rw [List.length_map]; omega
          rw [List.getElem?_eq_getElem hjl] at hcell
          have hfro := hou.frozenAt j
          have hm : Mod (fun k => k = g) wr (wr.setCell ⟨g, j, none⟩ (.int .u8 1)) := Mod.setCell wr _ _ rfl
          have HS2 := Lib.hid (hs.out.poke hou j 1)
          have HX2 := Lib.hid (hm.ext hx.out (fun k e => by have := HBS.out; omega))
          have HB2 := Lib.hid (blk_mod hb.out hm (fun e => own_ne hou hb.out (by decide) g rfl e.symm))
          generalize (l0.map byteVal)[j] = old at hcell
          clear hs hx hb hm hou hl0 hjl
          go_wp2
          go_roundw
          case rel => exact ⟨j + 1, by omega, by go_num, HS2, HX2, HB2⟩
          case measure => (simp [intOf]; try omega)
        · obtain rfl : j = N := by omega
          have HS2 := hs
          have HX2 := hx
          have HB2 := hb
          clear hs hx hb hou hl0
          go_wp2
          go_roundw
          case rel => exact ⟨k + 1, by omega, by go_num, HS2, HX2, HB2⟩
          case measure => (simp [intOf]; try omega)
    · obtain rfl : k = ls.length := by omega
      clear hs hlt
      generalize hwz : wr = wz at *
      have HXZ := Lib.hid hx.out
      have HBZ := Lib.hid hb.out
      clear hx hb
      obtain ⟨c0, c1, c2, c3, c4, c5, c6, c7, c8⟩ := HC9.out wz HBZ.out
      have hx0 := Ext.of_drew wz
      have HT2 : Hid (∀ (v v2 : World) (u : Value) (us : List Value), RowsO v B0 u us ls → Ext v v2 → Calls Try.prog 21 #[u] v2 fun e w' => ∃ v', e = .returned v' ∧ w'.ownsRow v2.heap.size 9 1 v' ls.length (ls.map strV) ∧ Ext v2 w') := fun v v2 u us h hx => texts_any u ls v2 ((h.ext hx).rows (X := fun _ => True) (fun _ _ _ => trivial)) (by omega)
      go_wp2_with fail
      go_region_held3 (fun v => v.cell? ⟨w.heap.size, 0, none⟩ = some (.int .i64 r.n) ∧ v.cell? ⟨w.heap.size, 1, none⟩ = some (.slice sa sn sc) ∧ v.cell? ⟨w.heap.size, 2, none⟩ = some (.slice wa wn wc') ∧ v.cell? ⟨w.heap.size, 3, none⟩ = some (.bool r.armed) ∧ v.cell? ⟨w.heap.size, 4, none⟩ = some (.bool r.down) ∧ v.cell? ⟨w.heap.size, 5, none⟩ = some (.int .i64 r.after) ∧ v.cell? ⟨w.heap.size, 6, none⟩ = some (.int .u32 (gen : Int)) ∧ v.cell? ⟨w.heap.size, 7, none⟩ = some (.slice la ls.length lc) ∧ v.cell? ⟨w.heap.size, 8, none⟩ = some (.bool cl)) (first | exact HC9.out _ (blk_mod (F := fun _ => False) HBZ.out (Mod.of_ext hx0) (fun h => h)) | exact HC9.out _ (blk_mod (F := fun _ => False) HBZ.out (Mod.of_ext (hx0.trans hx6)) (fun h => h)) | exact HC9.out _ (blk_mod (F := fun _ => False) HBZ.out (Mod.of_ext ((hx0.trans hx6).trans hx7)) (fun h => h)) | exact HC9.out _ (blk_mod (F := fun _ => False) HBZ.out (Mod.of_ext (((hx0.trans hx6).trans hx7).trans hx8)) (fun h => h)) | exact HC9.out _ (blk_mod (F := fun _ => False) HBZ.out (Mod.of_ext ((((hx0.trans hx6).trans hx7).trans hx8).trans hx9)) (fun h => h))) (first
        | (go_at_call 22; refine (HREC.out _ (HXZ.out.trans hx0)).mono ?_; rintro e w6 ⟨rv2, rs2, rfl, hro2, hx6⟩)
        | (go_at_call 21; refine (texts_any rv2 ls _ (hro2.rows (X := fun _ => True) (fun _ _ _ => trivial)) (by omega)).mono ?_; rintro e w7 ⟨tv2, rfl, ho7, hx7⟩)
        | (go_at_call 20; refine (same_any tv2 (.slice la ls.length lc) ls ls _ (Reads.of_own ho7 (str_one _)) (HROW.out _ (HXZ.out.trans ((hx0.trans hx6).trans hx7)))).mono ?_; rintro e w8 ⟨rfl, hx8⟩)
        | (go_at_call 62; refine (HTEL.out _ (HXZ.out.trans (((hx0.trans hx6).trans hx7).trans hx8))).mono ?_; rintro e w9 ⟨rfl, hx9⟩))
      have HXF := Lib.hid (HXZ.out.trans ((((hx0.trans hx6).trans hx7).trans hx8).trans hx9))
      clear hx0 hx6 hx7 hx8 hx9 c0 c1 c2 c3 c4 c5 c6 c7 c8
      go_wp2
      refine bodyPost_ret (v := .bool true) (by simp [results, Try.results39, go_sem]) rfl ⟨rfl, HXF.out⟩
end Go.Proofs.Ytmcmocakfhedfaa
