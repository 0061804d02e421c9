/- The walk of jetwaylaw01.awake: the document's own answers at fixed inputs. -/
import Derived.Test.YtnbadeaiocandaaProg
import Derived.Test.YtnbadeaiocandaaPlainW
import Derived.Test.YtnbadeaiocandaaPlainS
import Derived.Test.YtnbadeaiocandaaBase
import Derived.Test.YtnbadeaiocandaaReadVar
import Derived.Test.YtnbadeaiocandaaVar
import Derived.Test.YtnbadeaiocandaaSum
import Derived.Test.YtnbadeaiocandaaPut
import Derived.Test.YtnbadeaiocandaaZig
namespace Go.Proofs.Ytnbadeaiocandaa
open Go.RowKit

theorem readVar_any (v : Value) (l : List UInt8) (w : World) (h : Bs w v l) (hl : l.length ≤ 1000000) :
    Calls Try.prog 12 #[v] w fun e w' =>
      e = .returned (.tuple #[.int .u64 ((W.rv l 0 0).1 : Int), .int .i64 ((W.rv l 0 0).2.1 : Int), .int .i64 ((W.rv l 0 0).2.2 : Int)]) ∧ w = w' := by
  rcases h.open with ⟨a, cap, rfl, rfl, _, _⟩ | ⟨b, off, cap, rfl, hp, _, _, _, hc⟩
  · exact readVar_nil a cap w
  · exact readVar_cons b off cap l w hl hp hc

theorem own_open {w : World} {base : Nat} {e : TypeId} {v : Value} {n : Nat} {xs : List Value} (h : w.ownsRow base e 1 v n xs) (hn : 0 < n) :
    ∃ g cap, v = .slice (some ⟨g, 0, none⟩) n cap ∧ base ≤ g ∧ g < w.heap.size ∧ n ≤ cap ∧ cap ≤ maxLen ∧ ∀ j, j < n → w.cell? ⟨g, j, none⟩ = xs[j]? := by
  rcases h.2 with ⟨_, h0⟩ | ⟨g, cap, cur, hv, hb, hg, hnc, hcm, _, _⟩
  · omega
  · subst hv
    refine ⟨g, cap, rfl, hb, (h.lt g rfl).2, hnc, hcm, fun j hj => ?_⟩
    exact h.cellAt j (by omega)

theorem Rows2.two {w : World} {u1 u2 : Value} {l1 l2 : List UInt8} (h1 : Bs w u1 l1) (h2 : Bs w u2 l2) (c1 : u1.oneCell' = true) (c2 : u2.oneCell' = true) (e : TypeId) :
    Rows2 (w.alloc (.cells #[u1, u2] e)) (.slice (some ⟨w.heap.size, 0, none⟩) 2 2) [l1, l2] := by
  refine ⟨[u1, u2], Reads.row w [u1, u2] e (by simp [maxLen]) (by simp [c1, c2]), rfl, fun i hi => ?_⟩
  match i, hi with
  | 0, _ => exact ⟨u1, rfl, h1.ext (Ext.of_alloc _ _)⟩
  | 1, _ => exact ⟨u2, rfl, h2.ext (Ext.of_alloc _ _)⟩

set_option maxRecDepth 100000 in
set_option maxHeartbeats 1600000 in
theorem awake (w : World) : Calls Try.prog 10 #[] w fun e w' => e = .returned (.bool true) ∧ Ext w w' := by
  have hvb : W.vb 300 = [172, 2] := by rw [W.vb_more _ (by omega), W.vb_small _ (by omega)]; rfl
  go_enter Try.func10, Try.ntmps10
  go_wp2_with fail
  refine (var_any (.slice none 0 0) [] 300 w (by omega) (Bs.nil w) (by simp)).mono ?_
  rintro e w1 ⟨v1, rfl, hown1, hx1⟩
  rw [List.nil_append, hvb] at hown1
  obtain ⟨g, cap, rfl, hg, hg2, _, _, hc⟩ := own_open hown1 (by simp)
  have hc0 := hc 0 (by simp)
  simp [byteVal] at hc0
  clear hc hown1
  have HX1 := Lib.hid hx1
  clear hx1
  go_wp2_with fail
  refine (readVar_any _ [172, 2, 9] _ (Bs.lit w1 [172, 2, 9] 5 (by simp [maxLen])) (by simp)).mono ?_
  rintro e w2 ⟨rfl, rfl⟩
  have hrv : W.rv [172, 2, 9] 0 0 = (300, 2, 0) := by decide
  rw [hrv]
  clear hrv
  have hx2 : Ext w (w1.alloc (.cells ([172, 2, 9].map byteVal).toArray 5)) := HX1.out.alloc _
  have hc2 := (Ext.of_alloc w1 (.cells ([172, 2, 9].map byteVal).toArray 5)).cell hc0
  clear hc0 HX1 hg hg2
  generalize w1.alloc (.cells ([172, 2, 9].map byteVal).toArray 5) = w2 at *
  have HX2 := Lib.hid hx2
  clear hx2
  go_wp2_with fail
  refine (zig_any (-1) w2 (by omega) (by omega)).mono ?_
  rintro e w3 ⟨rfl, rfl⟩
  rw [show W.zig (-1) = 1 from by decide]
  have k1 := Lib.run_convert_bytes_const (P := Try.prog) w2 22 5 #[.int .u8 49, .int .u8 50, .int .u8 51, .int .u8 52] 4 4 Try.underlying22 Try.underlying5
  have k2 := Go.Joins.run_convert_bytes_const_at (P := Try.prog) (w2.alloc (.cells #[.int .u8 49, .int .u8 50, .int .u8 51, .int .u8 52] 5 (4, 5))) 22 5 #[.int .u8 53, .int .u8 54, .int .u8 55, .int .u8 56, .int .u8 57] 5 5 (w2.heap.size + 1) (by simp) Try.underlying22 Try.underlying5
  have r1 : Bs (w2.alloc (.cells #[.int .u8 49, .int .u8 50, .int .u8 51, .int .u8 52] 5 (4, 5))) (.slice (some ⟨w2.heap.size, 0, none⟩) 4 4) [49, 50, 51, 52] := Bs.litM w2 [49, 50, 51, 52] 5 (4, 5) (by simp [maxLen])
  have r2 : Bs ((w2.alloc (.cells #[.int .u8 49, .int .u8 50, .int .u8 51, .int .u8 52] 5 (4, 5))).alloc (.cells #[.int .u8 53, .int .u8 54, .int .u8 55, .int .u8 56, .int .u8 57] 5 (5, 6))) (.slice (some ⟨w2.heap.size + 1, 0, none⟩) 5 5) [53, 54, 55, 56, 57] := by
    have h := Bs.litM (w2.alloc (.cells #[.int .u8 49, .int .u8 50, .int .u8 51, .int .u8 52] 5 (4, 5))) [53, 54, 55, 56, 57] 5 (5, 6) (by simp [maxLen])
    simp only [World.size_alloc] at h
    exact h
  have R := Rows2.two (r1.ext (Ext.of_alloc _ (.cells #[.int .u8 53, .int .u8 54, .int .u8 55, .int .u8 56, .int .u8 57] 5 (5, 6)))) r2 rfl rfl 22
  clear r1 r2
  have hR := Lib.hid R
  clear R
  go_wp2_with fail
  refine (sum_any _ [[49, 50, 51, 52], [53, 54, 55, 56, 57]] _ (by simpa using hR.out)).mono ?_
  rintro e w3 ⟨rfl, rfl⟩
  rw [show S.sum [[49, 50, 51, 52], [53, 54, 55, 56, 57]].flatten = 3421780262 from by decide +kernel]
  go_wp2_with fail
  refine (put_any (.slice none 0 0) [] 258 2 _ (by omega) (Bs.nil _) (by simp) (by omega) (by omega)).mono ?_
  rintro e w3 ⟨v3, rfl, hown3, hx3⟩
  rw [List.nil_append, show W.be (W.sz 2) 258 = [1, 2] from by decide] at hown3
  have hstr := (Bs.of_own hown3).toString (P := Try.prog) 22 9 5 Try.underlying22 Try.underlying5 Try.underlying9
  have hfin : Ext w w3 := (((HX2.out.alloc _).alloc _).alloc _).trans hx3
  clear hown3 hx3 hR k1 k2
  have HFIN := Lib.hid hfin
  clear hfin
  go_wp2
  go_ret
  exact ⟨rfl, HFIN.out⟩
end Go.Proofs.Ytnbadeaiocandaa
