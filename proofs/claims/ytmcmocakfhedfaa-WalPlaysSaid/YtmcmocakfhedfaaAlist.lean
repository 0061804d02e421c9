/- jetwaylaw05.list: the records of an act. -/
import Derived.Test.YtmcmocakfhedfaaActs5
import Derived.Test.YtmcmocakfhedfaaBegun
namespace Go.Proofs.Ytmcmocakfhedfaa
open Go.RowKit

namespace W5
def alist (data : List UInt8) (size : Int) : List (List UInt8) := (List.range (min data.length 12)).map (fun i => record [data.getD i 0] size)
theorem alist_len (data : List UInt8) (size : Int) : (alist data size).length = min data.length 12 := by simp [alist]
theorem alist_take (data : List UInt8) (size : Int) (k : Nat) (h : k < min data.length 12) : (alist data size).take (k + 1) = (alist data size).take k ++ [record [data.getD k 0] size] := by
  have hl : k < (alist data size).length := by rw [alist_len]; exact h
  rw [List.take_succ_eq_append_getElem hl]
  congr 2
  simp [alist]
theorem alist_le (data : List UInt8) (size : Int) : ∀ b ∈ alist data size, b.length ≤ 10000 := by
  intro b hb
  obtain ⟨i, _, rfl⟩ := List.mem_map.1 hb
  rw [record_len]; exact recN_le _
end W5
theorem RowsO.lower {w : World} {base base' : Nat} {v : Value} {vs : List Value} {ls : List (List UInt8)} (h : RowsO w base v vs ls) (hb : base' ≤ base) : RowsO w base' v vs ls :=
  ⟨ownsRow_base5 h.row hb, h.len, fun i hi => let ⟨u, a, b⟩ := h.each i hi; ⟨u, a, ownsRow_base5 b hb⟩⟩
theorem box_at (w : World) (A : Array Value) (e : TypeId) {v : World} (hx : Ext (w.alloc (.cells A e)) v) : v.heap[w.heap.size]? = some (.cells A e (0, 0)) :=
  (Below.block (B := (w.alloc (.cells A e)).heap.size) hx _ (by rw [World.size_alloc]; omega)).trans (heap_alloc_new w (.cells A e))

set_option maxRecDepth 100000 in
set_option maxHeartbeats 3200000 in
theorem list_any (kind i n size mask : Int) (dv kv : Value) (data : List UInt8) (w : World) (hb : Bs w dv data) :
    Calls Try.prog 32 #[.agg #[.int .i64 kind, .int .i64 i, .int .i64 n, .int .i64 size, dv, kv, .int .u8 mask]] w fun e w' => ∃ v vs, e = .returned v ∧ RowsO w' w.heap.size v vs (W5.alist data size) ∧ Ext w w' := by
  obtain ⟨ib, hib, hzb0, hzb1, hzb2⟩ := info_parts info_row5
  have HB := Lib.hid hb
  have hdl := hb.length_le
  obtain ⟨da, dc, rfl⟩ := hb.shape
  clear hb
  have hdli : (data.length : Int) ≤ 9223372036854775807 := by omega
  have hxw := Ext.of_alloc w (.cells #[.int .i64 kind, .int .i64 i, .int .i64 n, .int .i64 size, .slice da data.length dc, kv, .int .u8 mask] 70)
  have hbx := fun (v : World) hx => box_at w #[.int .i64 kind, .int .i64 i, .int .i64 n, .int .i64 size, .slice da data.length dc, kv, .int .u8 mask] 70 (v := v) hx
  go_enter Try.func32, Try.ntmps32
  go_wp2
  generalize hwb : w.alloc (.cells #[.int .i64 kind, .int .i64 i, .int .i64 n, .int .i64 size, .slice da data.length dc, kv, .int .u8 mask] 70) = wb at *
  have hwbs : wb.heap.size = w.heap.size + 1 := by rw [← hwb]; simp
  clear hwb
  go_loopw [3, 4] (fun bv iv wr => ∃ k : Nat, ∃ vs, k ≤ min data.length 12 ∧ iv = .int .i64 (k : Int) ∧ Hid (RowsO wr (w.heap.size + 1) bv vs ((W5.alist data size).take k)) ∧ Hid (Ext wb wr)) (fun _ iv _ => min data.length 12 - (intOf iv).toNat)
  case atStart => exact ⟨0, [], by omega, rfl, RowsO.nil _ _, Ext.refl wb⟩
  case round =>
    obtain ⟨k, vs, hk, rfl, hr, hx⟩ := hrel
    have hblk := hbx wr hx.out
    have c3 : wr.cell? ⟨w.heap.size, 3, none⟩ = some (.int .i64 size) := (cell_of_row wr w.heap.size 3 _ _ _ hblk).trans rfl
    have c4 : wr.cell? ⟨w.heap.size, 4, none⟩ = some (.slice da data.length dc) := (cell_of_row wr w.heap.size 4 _ _ _ hblk).trans rfl
    by_cases hlt : k < min data.length 12
    · have hlt1 : (k : Int) < (data.length : Int) := by omega
      have hlt2 : (k : Int) < 12 := by omega
      have hbw := HB.out.ext (hxw.trans hx.out)
      rcases hbw.open with ⟨_, _, _, h0, _⟩ | ⟨db, off, cap', he, hp, hcap, hcm, _, _⟩
      · rw [h0] at hlt; simp at hlt
      · obtain ⟨rfl, _, rfl⟩ := Value.slice.inj he
        have hsub : Hid (Bs wr (.slice (some ⟨db, off + k, none⟩) 1 (dc - k)) [data.getD k 0]) := by
          have h1 := hbw.sub k 1 (by omega)
          have e : (data.drop k).take 1 = [data.getD k 0] := by
            rw [List.drop_eq_getElem_cons (by omega : k < data.length)]
            rw [List.getD_eq_getElem?_getD, List.getElem?_eq_getElem (by omega)]
            rfl
          rw [e] at h1
          exact h1
        have HTK := Lib.hid (W5.alist_take data size k hlt)
        have htl : ((W5.alist data size).take k).length = k := by rw [List.length_take, W5.alist_len]; omega
        have hsw : IntKind.i64.wrap ((k : Int) + 1) = (k : Int) + 1 := by rw [IntKind.wrap_i64]; omega
        have hcl : ((k : Int) + 1).toNat - k = 1 := by omega
        have hk1 : (k : Int) + 1 ≤ (dc : Int) := by omega
        have hk2 : (k : Int) ≤ (k : Int) + 1 := by omega
        have hk3 : ¬ dc ≤ k := by omega
        have hk5 : ¬ dc = k := by omega
        have hk6 : ¬ k = dc := by omega
        have hk7 : ¬ dc - k = 0 := by omega
        have hk4 : (0 : Int) ≤ (k : Int) := by omega
        have hre := fun (w' : World) (hx2 : Ext wr w') => record_any _ [data.getD k 0] size w' (hsub.out.ext hx2)
        unfold MadeB at hre
        have hx0 := Ext.of_drew wr
        have hrow := hr.out.row
        rw [htl] at hrow
        clear hbw he hcm hp
        generalize data.getD k 0 = D0 at *
        go_wp2_with fail
        go_region_held3 (fun w' => w'.cell? ⟨w.heap.size, 3, none⟩ = some (.int .i64 size) ∧ w'.cell? ⟨w.heap.size, 4, none⟩ = some (.slice (some ⟨db, off, none⟩) data.length dc)) (first
            | exact ⟨Ext.cell hx0 c3, Ext.cell hx0 c4⟩
            | exact ⟨Ext.cell hx5 (Ext.cell hx0 c3), Ext.cell hx5 (Ext.cell hx0 c4)⟩
            | exact ⟨Ext.cell (Ext.of_alloc w5 _) (Ext.cell hx5 (Ext.cell hx0 c3)), Ext.cell (Ext.of_alloc w5 _) (Ext.cell hx5 (Ext.cell hx0 c4))⟩
            | exact ⟨Mod.cell hm8 (Ext.cell (Ext.of_alloc w5 _) (Ext.cell hx5 (Ext.cell hx0 c3))) hn8, Mod.cell hm8 (Ext.cell (Ext.of_alloc w5 _) (Ext.cell hx5 (Ext.cell hx0 c4))) hn8⟩) (first
          | (go_at_call 16; refine (hre _ hx0).mono ?_; rintro e w5 ⟨v5, rfl, hown5, hx5⟩; obtain ⟨va, vc, rfl⟩ := (Bs.of_own hown5).shape)
          | (refine step_append_lies _ rfl _ _ 40 rfl (w.heap.size + 1) 31 ib (.slice none 0 0) 1 24 Try.underlying40 hib hzb0 hzb1 hzb2 (by rfl) (by decide) u3 k vs rfl (((hx0.trans hx5).trans (Ext.of_alloc w5 _)).keptOwn hrow) ⟨w5.heap.size, 0, none⟩ 1 1 [.slice va (W5.record [D0] size).length vc] rfl rfl (fun j u hj => by
                rw [Addr.add_lit, World.cell?_alloc_at _ _ _ _ rfl]
                simpa using hj) (by simp [Value.oneCell']) (by decide) (by unfold maxLen; omega) (by omega) (by rw [← hwbs]; exact (hx.out.trans ((hx0.trans hx5).trans (Ext.of_alloc w5 _))).size) (w5.heap.size + 1) (by simp) ?_
             intro g7 cap7 w8 hown8 hgrow8 hat8 hlt8
             have hm8 : Mod (fun k => u3.ownBlock = some k) (w5.alloc (.cells #[.slice va (W5.record [D0] size).length vc] 31)) w8 := Mod.grown hgrow8 (fun k e _ => e)
             have hn8 : ¬ u3.ownBlock = some w.heap.size := fun e => by have := (hrow.lt _ e).1; omega))
        have hx7 := Ext.of_alloc w5 (.cells #[.slice va (W5.record [D0] size).length vc] 31)
        have hws : w.heap.size + 1 ≤ wr.heap.size := by rw [← hwbs]; exact hx.out.size
        have HR8 := Lib.hid (hr.out.push ((hx0.trans hx5).trans hx7) (base' := wr.drew.heap.size) hws (Nat.le_refl _) (hx7.keptOwn hown5) (by rw [htl]; exact hown8) hgrow8)
        have HX8 := Lib.hid ((hx.out.trans ((hx0.trans hx5).trans hx7)).grown hgrow8 (fun k hk => by rw [hwbs]; exact (hrow.lt k hk).1))
        rw [← HTK.out] at HR8
        clear hown8 hgrow8 hat8 hlt8 hx7 hm8 hn8 hrow hown5 hx5 hx0 hre hr hx hblk c3 c4 hsub
        go_wp2
        go_roundw
        case rel => exact ⟨k + 1, _, by omega, by go_num, HR8, HX8⟩
        case measure => (simp [intOf]; try omega)
    · have hkm : k = min data.length 12 := by omega
      have HR := Lib.hid (show RowsO wr (w.heap.size + 1) u3 vs (W5.alist data size) by
        have h := hr.out
        rw [List.take_of_length_le (by rw [W5.alist_len]; omega)] at h
        exact h)
      have HX := Lib.hid (hxw.trans hx.out)
      clear hr hx hblk
      by_cases hk1 : k < data.length
      · obtain rfl : k = 12 := by omega
        have hk3 : (12 : Int) < (data.length : Int) := by omega
        clear hkm hk1 hlt
        go_wp2
        go_ret
        exact ⟨_, vs, rfl, HR.out.lower (Nat.le_succ _), HX.out⟩
      · obtain rfl : k = data.length := by omega
        clear hkm hk1 hlt
        go_wp2
        go_ret
        exact ⟨_, vs, rfl, HR.out.lower (Nat.le_succ _), HX.out⟩
end Go.Proofs.Ytmcmocakfhedfaa
