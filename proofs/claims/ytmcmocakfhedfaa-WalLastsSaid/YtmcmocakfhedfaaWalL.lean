/- wal: Records. -/
import Derived.Test.YtmcmocakfhedfaaWalK
namespace Go.Proofs.Ytmcmocakfhedfaa
open Go.RowKit

section
variable {w0 w : World} {X : Nat → Prop} {p q : Nat}
theorem Logd.shape {L : W5.Lg} (h : Logd w0 w X p q L) : ∃ lva lvc, w.cell? ⟨q, 3, none⟩ = some (.slice lva L.recs.length lvc) ∧ RowsX w (fun _ => True) (.slice lva L.recs.length lvc) L.recs := by
  obtain ⟨⟨Y, lv, vs, hY⟩, _, _, _⟩ := h
  have hr := hY.at_.rows
  have c3 := hY.at_.c3
  obtain ⟨lva, lvc, rfl⟩ : ∃ lva lvc, lv = .slice lva L.recs.length lvc := by
    rcases hr.row.2 with ⟨h9, h10⟩ | ⟨g, cp, cur, h9, _⟩
    · exact ⟨_, _, by rw [h9, h10]⟩
    · exact ⟨_, _, h9⟩
  exact ⟨lva, lvc, c3, hr.rows (fun _ _ _ => trivial)⟩
set_option maxRecDepth 100000 in
set_option maxHeartbeats 3200000 in
theorem records_any {L : W5.Lg} (h : Logd w0 w X p q L) :
    Calls Try.prog 22 #[.pointer (some ⟨q, 0, none⟩)] w fun e w' => ∃ v vs, e = .returned v ∧ RowsO w' w.heap.size v vs L.recs ∧ Ext w w' := by
  obtain ⟨ib, hib, hzb0, hzb1, hzb2⟩ := info_parts info_row5
  have hlr : L.recs.length ≤ 2047 := by
    obtain ⟨⟨Y, lv, vs, hY⟩, hfit, _, _⟩ := h
    have := W5.len_le_used L.recs
    have := W5.area_le L.d hY.held.okd.n2
    omega
  have HLEN := Lib.hid h.len
  obtain ⟨lva, lvc, c3, hrx⟩ := h.shape
  obtain ⟨_, a, cap, hsl, hcell⟩ := hrx.shape
  obtain ⟨rfl, _, rfl⟩ := Value.slice.inj hsl
  have HC := Lib.hid hcell
  generalize L.recs = ls at *
  have hli : (ls.length : Int) ≤ 2047 := by omega
  clear h hrx hsl hcell
  go_enter Try.func22, Try.ntmps22
  go_wp2
  go_loopw [3, 11] (fun bv iv wr => ∃ k : Nat, ∃ vs, k ≤ ls.length ∧ iv = .int .i64 (k : Int) ∧ Hid (RowsO wr w.heap.size bv vs (ls.take k)) ∧ Hid (Ext w wr)) (fun _ iv _ => ls.length - (intOf iv).toNat)
  case atStart => exact ⟨0, [], by omega, rfl, RowsO.nil _ _, Ext.refl w⟩
  case round =>
    obtain ⟨k, vs, hk, rfl, hr, hx⟩ := hrel
    by_cases hlt : k < ls.length
    · have hlti : (k : Int) < (ls.length : Int) := by omega
      obtain ⟨b, off, rfl, -, u, hcu, hbu, -⟩ := HC.out k hlt
      have hlb := HLEN.out ls[k] (List.getElem_mem hlt)
      have HTK := Lib.hid (show ls.take (k + 1) = ls.take k ++ [ls[k]] from List.take_succ_eq_append_getElem hlt)
      have htl : (ls.take k).length = k := by rw [List.length_take]; omega
      have hcu2 := Ext.cell hx.out hcu
      have HBU := Lib.hid (hbu.ext hx.out)
      obtain ⟨a', cap', rfl⟩ := hbu.shape
      clear hbu hcu
      generalize ls[k] = LB at *
      go_wp2_with fail
      refine (clone_any _ LB _ HBU.out (by omega)).mono ?_
      rintro e w6 ⟨u6, rfl, hown6, hx6⟩
      obtain ⟨ua, uc, rfl⟩ := (Bs.of_own hown6).shape
      have HU6 := Lib.hid hown6
      have HX6 := Lib.hid hx6
      have hx7 := Ext.of_alloc w6 (.cells #[.slice ua LB.length uc] 31)
      have HR7 := Lib.hid ((hr.out.ext (HX6.out.trans hx7)).row)
      have HRD := Lib.hid (Reads.one w6 (.slice ua LB.length uc) 31 rfl)
      have hs7 := (hx.out.trans (HX6.out.trans hx7)).size
      rw [htl] at HR7
      clear hown6 hx6
      go_wp2_with (first | (at_builtin; refine wpl_append _ rfl _ _ 40 rfl w.heap.size 31 ib (.slice none 0 0) 24 Try.underlying40 hib hzb0 hzb1 hzb2 rfl u3 k vs (by rfl) HR7.out _ [.slice ua LB.length uc] (by rfl) HRD.out (by simp [maxLen]; omega) (by simp; omega) hs7 ?_; intro v' w8 hown8 hgrow8) | fail)
      have HR8 := Lib.hid (hr.out.push (HX6.out.trans hx7) hx.out.size (Nat.le_refl _) (hx7.keptOwn HU6.out) (by rw [htl]; exact hown8) hgrow8)
      have HX8 := Lib.hid ((hx.out.trans (HX6.out.trans hx7)).grown hgrow8 (fun k hk => (hr.out.row.lt k hk).1))
      rw [← HTK.out] at HR8
      clear hown8 hgrow8 hx7 HR7 HRD hr hx
      go_wp2
      go_roundw
      case rel => exact ⟨k + 1, _, by omega, by go_num, HR8, HX8⟩
      case measure => (simp [intOf]; try omega)
    · obtain rfl : k = ls.length := by omega
      rw [List.take_length] at hr
      have HR := Lib.hid hr.out
      have HX := Lib.hid hx.out
      clear hr hx
      go_wp2
      go_ret
      exact ⟨_, vs, rfl, HR.out, HX.out⟩
end
end Go.Proofs.Ytmcmocakfhedfaa
