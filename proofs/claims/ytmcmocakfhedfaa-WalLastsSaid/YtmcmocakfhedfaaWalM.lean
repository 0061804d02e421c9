/- wal: Open. -/
import Derived.Test.YtmcmocakfhedfaaWalL
namespace Go.Proofs.Ytmcmocakfhedfaa
open Go.RowKit

namespace W5
/-- The records of a generation. -/
def readF (d : D.Dsk) (gen : Nat) : Nat → Nat → Nat → List (List UInt8)
  | 0, _, _ => []
  | f + 1, n, at_ => match nextR d gen n at_ with
    | none => []
    | some b => b :: readF d gen f (n + 1) (at_ + need b.length)
def read (d : D.Dsk) (gen : Nat) : List (List UInt8) := readF d gen (area d + 1) 0 0
theorem readF_none {d : D.Dsk} {gen f n at_ : Nat} (h : nextR d gen n at_ = none) : readF d gen f n at_ = [] := by
  cases f with
  | zero => rfl
  | succ f => unfold readF; rw [h]
theorem readF_some {d : D.Dsk} {gen f n at_ : Nat} {b : List UInt8} (h : nextR d gen n at_ = some b) : readF d gen (f + 1) n at_ = b :: readF d gen f (n + 1) (at_ + need b.length) := by
  show (match nextR d gen n at_ with | none => [] | some b => b :: readF d gen f (n + 1) (at_ + need b.length)) = _
  rw [h]
theorem nextR_some {d : D.Dsk} (hok : D.Ok d) {gen n at_ : Nat} {b : List UInt8} (h : nextR d gen n at_ = some b) : at_ + need b.length ≤ area d ∧ b.length ≤ 8192 := by
  unfold nextR at h
  split at h
  · cases h
  · split at h
    · cases h
    · split at h
      · obtain rfl := Option.some.inj h
        rw [nextB_all d hok]
        omega
      · cases h
def list (d : D.Dsk) : List (List UInt8) := if (current d).2 = true then read d (current d).1 else []
def opened (d : D.Dsk) : Lg × Int := renew ⟨d, following d (current d).1 - 1, [], false⟩ (list d)
/-- What lies there behind Open, if there is a log, and the error's number. -/
def open_ (d : D.Dsk) : Lg × Int :=
  if d.n < 4 then (⟨d, 0, [], false⟩, 1) else if d.down = true then (⟨d, 0, [], false⟩, 3) else
  if 4294967295 < following d (current d).1 then (⟨d, 0, [], false⟩, 11) else opened d
theorem used_snoc (l : List (List UInt8)) (b : List UInt8) : used (l ++ [b]) = used l + need b.length := by
  unfold used; rw [List.map_append, List.sum_append]; simp
end W5

section
variable {w0 w : World} {X : Nat → Prop} {p q : Nat}
theorem Logd.less {L : W5.Lg} {X' : Nat → Prop} (h : Logd w0 w X p q L) (hX : ∀ k, X' k → X k) (ho : ∀ k, k < w0.heap.size → X' k) : Logd w0 w X' p q L :=
  let ⟨⟨Y, lv, vs, hY⟩, h2, h3, h4⟩ := h
  ⟨⟨Y, lv, vs, hY.less hX ho⟩, h2, h3, h4⟩
theorem Logd.held {L : W5.Lg} (h : Logd w0 w X p q L) : Held w0 w X p L.d :=
  let ⟨⟨_, _, _, hY⟩, _, _, _⟩ := h
  hY.held.less hY.sub hY.old
/-- A log that has just been made. -/
theorem Logd.made {wb wl : World} {d : D.Dsk} {gen : Nat} (h : Held w0 w X p d) (hxb : Ext w wb) (hq : q = wb.heap.size) (hx : Ext (wb.alloc (.cells #[.pointer (some ⟨p, 0, none⟩), .int .u32 (gen : Int), .int .i64 0, .slice none 0 0, .bool false] 84)) wl) (hg : gen < 4294967296) :
    Logd w0 wl (fun k => X k ∨ (w.heap.size ≤ k ∧ k < wl.heap.size ∧ k ≠ q)) p q ⟨d, gen, [], false⟩ := by
  subst hq
  have hxl : Ext w wl := (hxb.alloc _).trans hx
  have hb : (wb.alloc (.cells #[.pointer (some ⟨p, 0, none⟩), .int .u32 (gen : Int), .int .i64 0, .slice none 0 0, .bool false] 84)).heap[wb.heap.size]? = some (.cells #[.pointer (some ⟨p, 0, none⟩), .int .u32 (gen : Int), .int .i64 0, .slice none 0 0, .bool false] 84 (0, 0)) := heap_alloc_new wb _
  have hbl := blk_mod hb (F := fun _ => False) (Mod.of_ext hx) (fun h => h)
  have hlt := blk_lt hbl
  refine ⟨⟨New X w wl, .slice none 0 0, [], h.all hxl, ?_, ⟨hbl, Nat.le_trans h.ext.size hxb.size, RowsO.nil _ _⟩, ?_, fun k hk => .inl (h.old k hk)⟩, Nat.zero_le _, (fun b hb => absurd hb List.not_mem_nil), hg⟩
  · rintro k (hk | ⟨h1, h2, _⟩)
    · exact .inl hk
    · exact .inr ⟨h1, h2⟩
  · rintro k (rfl | hk | ⟨u, hu, _⟩)
    · refine ⟨.inr ⟨hxb.size, hlt⟩, ?_⟩
      rintro (hX | ⟨_, _, h9⟩)
      · have := h.lt _ hX
        have := hxb.size
        omega
      · exact h9 rfl
    · simp [Value.ownBlock] at hk
    · cases hu
/-- What Open answers. -/
def Opened (w0 w w' : World) (X : Nat → Prop) (p : Nat) (r : W5.Lg × Int) (e : Ending) : Prop :=
  (r.2 = 0 ∧ ∃ q, e = .returned (.tuple #[.pointer (some ⟨q, 0, none⟩), .int .i64 0]) ∧ w.heap.size ≤ q ∧ Logd w0 w' X p q r.1 ∧ Keeps X w w') ∨
  (r.2 ≠ 0 ∧ e = .returned (.tuple #[.pointer none, .int .i64 r.2]) ∧ Step w0 w w' X p r.1.d)

set_option maxRecDepth 100000 in
set_option maxHeartbeats 3200000 in
theorem open_any {d : D.Dsk} (h : Held w0 w X p d) (hwl : d.wait.length ≤ 1073600000) :
    Calls Try.prog 19 #[.pointer (some ⟨p, 0, none⟩)] w fun e w' => Opened w0 w w' X p (W5.open_ d) e := by
  obtain ⟨ib, hib, hzb0, hzb1, hzb2⟩ := info_parts info_row5
  have HD := Lib.hid h
  have hok := h.okd
  have hn1 := hok.n1
  have hn2 := hok.n2
  have HO := Lib.hid (show W5.open_ d = _ from W5.open_.eq_1 d)
  have hs := held_size h
  have hdw := held_down h
  clear h
  unfold Opened
  go_enter Try.func19, Try.ntmps19
  go_wp2_with fail
  refine hs.mono ?_
  rintro e w1 ⟨rfl, rfl⟩
  by_cases h1 : d.n < 4
  · rw [if_pos h1] at HO
    go_wp2
    go_ret2
    rw [HO.out]
    exact .inr ⟨(by intro h; cases h), rfl, HD.out, Keeps.refl _ _⟩
  · have h1i : decide (d.n < 4) = false := decide_eq_false h1
    rw [if_neg h1] at HO
    have h4 : 4 ≤ d.n := by omega
    clear h1
    go_wp2_with fail
    refine hdw.mono ?_
    rintro e w1 ⟨rfl, rfl⟩
    by_cases h2 : d.down = true
    · rw [h2]
      rw [if_pos h2] at HO
      go_wp2
      go_ret2
      rw [HO.out]
      exact .inr ⟨(by intro h; cases h), rfl, HD.out, Keeps.refl _ _⟩
    · have h2i : d.down = false := by simpa using h2
      rw [if_neg h2] at HO
      rw [h2i]
      clear h2 hs hdw
      go_wp2_with fail
      refine (current_any HD.out h4 h2i).mono ?_
      rintro e w2 ⟨rfl, hx2⟩
      have hgl : (W5.current d).1 < 4294967296 := W5.curTo_lt d 2
      have HLI := Lib.hid (show W5.list d = if (W5.current d).2 = true then W5.read d (W5.current d).1 else [] from rfl)
      have HOP := Lib.hid (show W5.opened d = W5.renew ⟨d, W5.following d (W5.current d).1 - 1, [], false⟩ (W5.list d) from rfl)
      generalize W5.current d = C at *
      obtain ⟨gen, has⟩ := C
      simp only at hgl HLI HOP HO
      have hf1 : 1 ≤ W5.following d gen := by unfold W5.following; omega
      have hf2 : W5.following d gen < 8589934592 := by
        have := W5.folTo_lt d gen hgl d.n.toNat
        unfold W5.following
        split <;> omega
      have HX2 := Lib.hid hx2
      clear hx2
      go_wp2_with fail
      refine (following_any (HD.out.after_ext HX2.out) h2i gen hgl).mono ?_
      rintro e w3 ⟨rfl, hx3⟩
      have HX3 := Lib.hid (HX2.out.trans hx3)
      clear hx3 HX2
      generalize W5.following d gen = F at *
      by_cases h3 : 4294967295 < F
      · have h3i : (4294967295 : Int) < (F : Int) := by omega
        rw [if_pos h3] at HO
        clear h3
        go_wp2
        go_ret2
        rw [HO.out]
        exact .inr ⟨(by intro h; cases h), rfl, HD.out.after_ext HX3.out, Keeps.of_ext HX3.out⟩
      · have h3i : decide ((4294967295 : Int) < (F : Int)) = false := decide_eq_false (by omega)
        rw [if_neg h3, HOP.out] at HO
        have hF1 : (1 : Int) ≤ (F : Int) := by omega
        have hF2 : (F : Int) ≤ 4294967295 := by omega
        have hfc : (F : Int) - 1 = ((F - 1 : Nat) : Int) := by omega
        generalize hG : F - 1 = G at *
        have hGi : (G : Int) < 4294967295 := by omega
        have hG : Hid (G < 4294967296) := by unfold Hid; omega
        clear h3 hf1 hf2 HOP
        go_wp2
        go_loopw [8, 9] (fun bv av wr => ∃ ls : List (List UInt8), ∃ vs : List Value, ∃ f : Nat, av = .int .i64 (W5.used ls : Int) ∧ W5.used ls ≤ W5.area d ∧ W5.area d < f + W5.used ls ∧ Hid (RowsO wr (w3.heap.size + 1) bv vs ls) ∧ Hid (Ext (w3.alloc (.cells #[.pointer (some ⟨p, 0, none⟩), .int .u32 (G : Int), .int .i64 0, .slice none 0 0, .bool false] 84)) wr) ∧ Hid (has = true → W5.read d gen = ls ++ W5.readF d gen f ls.length (W5.used ls)) ∧ Hid (has = false → ls = [])) (fun _ av _ => W5.area d - (intOf av).toNat)
        case atStart => exact ⟨[], [], W5.area d + 1, rfl, by show 0 ≤ _; omega, by show _ < _ + 0; omega, RowsO.nil _ _, Ext.refl _, fun _ => rfl, fun _ => rfl⟩
        case round =>
          obtain ⟨ls, vs, f, rfl, hul, hfu, hr, hx, ht, hfa⟩ := hrel
          have hlu := W5.len_le_used ls
          have hal := W5.area_le d hn2
          cases has
          · obtain rfl := hfa.out rfl
            have HLE : Hid (W5.list d = []) := HLI.out.trans (if_neg (by decide))
            have hLd := Logd.made HD.out HX3.out (rfl : w3.heap.size = w3.heap.size) hx.out hG.out
            have hRX := hr.out.rows (X := fun k => X k ∨ (w.heap.size ≤ k ∧ k < wr.heap.size ∧ k ≠ w3.heap.size)) (fun k h1 h2 => .inr ⟨by have := HX3.out.size; omega, h2, by omega⟩)
            have hre := renew_any hLd _ [] hRX (Nat.zero_le _) hwl
            have HRE := Lib.hid hre
            have HLE2 := Lib.hid (show W5.open_ d = W5.renew ⟨d, G, [], false⟩ [] by rw [HO.out, HLE.out])
            have HKX := Lib.hid (Keeps.of_ext (X := X) ((HX3.out.alloc _).trans hx.out))
            have HOLD := Lib.hid HD.out.old
            clear hLd hRX hre hx hr HO
            generalize hRR : W5.renew ⟨d, G, [], false⟩ [] = RR at *
            obtain ⟨L1, E1⟩ := RR
            clear hRR
            go_wp2_with fail
            refine HRE.out.mono ?_
            clear HRE
            rintro e w7 ⟨rfl, hL7, hK7⟩
            have HL7 := Lib.hid (hL7.less (X' := X) (fun _ h => .inl h) HOLD.out)
            have HK7 := Lib.hid (HKX.out.trans (hK7.less (X := X) (fun _ h => .inl h)))
            clear hL7 hK7
            by_cases hz : E1 = 0
            · subst hz
              go_wp2
              go_ret2
              rw [HLE2.out]
              exact .inl ⟨rfl, _, rfl, HX3.out.size, HL7.out, HK7.out⟩
            · have hz3 : (E1 != 0) = true := by rw [bne_iff_ne]; exact hz
              have HZ := Lib.hid hz
              clear hz
              go_wp2
              go_ret2
              rw [HLE2.out]
              exact .inr ⟨HZ.out, rfl, HL7.out.held, HK7.out⟩
          · have hhx := hx.out
            have hx3r := Lib.hid ((HX3.out.alloc _).trans hx.out)
            have hcq := Ext.cell hx.out (show (w3.alloc (.cells #[.pointer (some ⟨p, 0, none⟩), .int .u32 (G : Int), .int .i64 0, .slice none 0 0, .bool false] 84)).cell? ⟨w3.heap.size, 0, none⟩ = some (.pointer (some ⟨p, 0, none⟩)) by rw [World.cell?_alloc_at _ _ _ _ rfl]; rfl)
            have hne := next_any (HD.out.after_ext hx3r.out) h2i hcq gen ls.length (W5.used ls) hgl (by omega) (by omega)
            have HNE := Lib.hid hne
            have HNS := Lib.hid (fun b (h : W5.nextR d gen ls.length (W5.used ls) = some b) => W5.nextR_some hok h)
            have HRS := Lib.hid (fun b (h : W5.nextR d gen ls.length (W5.used ls) = some b) => W5.readF_some (f := f - 1) h)
            have HRN := Lib.hid (fun (h : W5.nextR d gen ls.length (W5.used ls) = none) => W5.readF_none (f := f) h)
            have hf1 : f - 1 + 1 = f := by omega
            rw [hf1] at HRS
            clear hhx hne
            obtain ⟨lva, lvc, rfl⟩ : ∃ lva lvc, u8 = .slice lva ls.length lvc := by
              rcases hr.out.row.2 with ⟨h9, h10⟩ | ⟨g, cp, cur, h9, _⟩
              · exact ⟨_, _, by rw [h9, h10]⟩
              · exact ⟨_, _, h9⟩
            have hlsi : (ls.length : Int) ≤ 2047 := by omega
            have hui : (W5.used ls : Int) ≤ 2047 := by omega
            go_wp2_with fail
            unfold NextE at HNE
            refine HNE.out.mono ?_
            clear HNE
            rintro e w4 ⟨v4, rfl, hso, hno, hx4⟩
            have HX4 := Lib.hid (hx.out.trans hx4)
            cases hn : W5.nextR d gen ls.length (W5.used ls) with
            | none =>
              have HLE : Hid (W5.list d = ls) := by
                unfold Hid
                rw [HLI.out, if_pos (by trivial), ht.out (by trivial), HRN.out hn, List.append_nil]
              have hr := Lib.hid (hr.out.ext hx4)
              obtain rfl := hno hn
              clear HRS HRN HNS ht hfa hso hno hx hcq hx3r hx4 hn
              have hx := HX4
              clear HX4
              obtain ⟨wt, hwt⟩ : ∃ wt, wt = w4 := ⟨_, rfl⟩
              subst hwt
              have hLd := Logd.made HD.out HX3.out (rfl : w3.heap.size = w3.heap.size) hx.out hG.out
              have hRX := hr.out.rows (X := fun k => X k ∨ (w.heap.size ≤ k ∧ k < wt.heap.size ∧ k ≠ w3.heap.size)) (fun k h1 h2 => .inr ⟨by have := HX3.out.size; omega, h2, by omega⟩)
              have hre := renew_any hLd _ ls hRX (by omega) hwl
              have HRE := Lib.hid hre
              have HLE2 := Lib.hid (show W5.open_ d = W5.renew ⟨d, G, [], false⟩ ls by rw [HO.out, HLE.out])
              have HKX := Lib.hid (Keeps.of_ext (X := X) ((HX3.out.alloc _).trans hx.out))
              have HOLD := Lib.hid HD.out.old
              clear hLd hRX hre hx hr HO
              generalize hRR : W5.renew ⟨d, G, [], false⟩ ls = RR at *
              obtain ⟨L1, E1⟩ := RR
              clear hRR
              go_wp2_with fail
              refine HRE.out.mono ?_
              clear HRE
              rintro e w7 ⟨rfl, hL7, hK7⟩
              have HL7 := Lib.hid (hL7.less (X' := X) (fun _ h => .inl h) HOLD.out)
              have HK7 := Lib.hid (HKX.out.trans (hK7.less (X := X) (fun _ h => .inl h)))
              clear hL7 hK7
              by_cases hz : E1 = 0
              · subst hz
                go_wp2
                go_ret2
                rw [HLE2.out]
                exact .inl ⟨rfl, _, rfl, HX3.out.size, HL7.out, HK7.out⟩
              · have hz3 : (E1 != 0) = true := by rw [bne_iff_ne]; exact hz
                have HZ := Lib.hid hz
                clear hz
                go_wp2
                go_ret2
                rw [HLE2.out]
                exact .inr ⟨HZ.out, rfl, HL7.out.held, HK7.out⟩
            | some b =>
              have hns := HNS.out b hn
              have hrs := HRS.out b hn
              have hob := hso b hn
              obtain ⟨va, vc, rfl⟩ := (Bs.of_own hob).shape
              have HOB := Lib.hid hob
              have hnl := need_17 b.length hns.2
              have hnp := W5.need_pos b.length
              have hnee : ∀ w, Calls Try.prog 11 #[.int .i64 (b.length : Int)] w fun e w' => e = .returned (.int .i64 (W5.need b.length : Int)) ∧ w = w' := by
                intro w
                refine (need_any (b.length : Int) w (by omega) (by omega)).mono ?_
                rintro e w1 ⟨rfl, rfl⟩
                rw [W5.need_nat]
                exact ⟨rfl, rfl⟩
              have HNEE := Lib.hid hnee
              have hx7 := Ext.of_alloc w4 (.cells #[.slice va b.length vc] 31)
              have HR7 := Lib.hid ((hr.out.ext (hx4.trans hx7)).row)
              have HRD := Lib.hid (Reads.one w4 (.slice va b.length vc) 31 rfl)
              have hbs : w3.heap.size + 1 ≤ wr.heap.size := by have := hx.out.size; rw [World.size_alloc] at this; exact this
              have HT2 : Hid (true = true → W5.read d gen = (ls ++ [b]) ++ W5.readF d gen (f - 1) (ls ++ [b]).length (W5.used (ls ++ [b]))) := by
                intro _
                rw [ht.out (by trivial), hrs, W5.used_snoc, List.length_append, List.append_assoc]
                rfl
              have HUS := Lib.hid (W5.used_snoc ls b)
              have hul2 : W5.used (ls ++ [b]) ≤ W5.area d := by rw [HUS.out]; omega
              have hfu2 : W5.area d < f - 1 + W5.used (ls ++ [b]) := by rw [HUS.out]; omega
              have hwr : W5.used ls + W5.need b.length = W5.used (ls ++ [b]) := HUS.out.symm
              have hbi : (b.length : Int) ≤ 8192 := by omega
              clear hob hso hno hnee HNS HRS HRN ht hfa hrs hcq
              generalize hU2 : W5.used (ls ++ [b]) = U2 at *
              generalize hUU : W5.used ls = U at *
              generalize hNN : W5.need b.length = N at *
              have hwrI : (U : Int) + (N : Int) = (U2 : Int) := by omega
              have hU2i : (U2 : Int) ≤ 2047 := by omega
              go_wp2_with (first | (at_builtin; refine wpl_append _ rfl _ _ 40 rfl (w3.heap.size + 1) 31 ib (.slice none 0 0) 24 Try.underlying40 hib hzb0 hzb1 hzb2 rfl _ ls.length vs (by rfl) HR7.out _ [.slice va b.length vc] (by rfl) HRD.out (by simp [maxLen]; omega) (by simp; omega) (Nat.le_trans hbs (hx4.trans hx7).size) ?_; intro v' w8 hown8 hgrow8) | fail)
              have HR8 := Lib.hid (hr.out.push (hx4.trans hx7) hbs (Nat.le_refl _) (hx7.keptOwn HOB.out) hown8 hgrow8)
              have HX8 := Lib.hid ((HX4.out.trans hx7).grown hgrow8 (fun k hk => by have := (hr.out.row.lt k hk).1; rw [World.size_alloc]; exact this))
              clear hown8 hgrow8 hx7 HR7 HRD hr hx hx4 HX4 hn
              refine (HNEE.out _).mono ?_
              rintro e w9 ⟨rfl, rfl⟩
              go_wp2
              go_roundw
              case rel => exact ⟨ls ++ [b], _, f - 1, by rw [hU2], by rw [hU2]; omega, by rw [hU2]; omega, HR8, HX8, by rw [hU2]; exact HT2, fun h => by cases h⟩
              case measure => (simp [intOf]; try omega)
end
end Go.Proofs.Ytmcmocakfhedfaa
