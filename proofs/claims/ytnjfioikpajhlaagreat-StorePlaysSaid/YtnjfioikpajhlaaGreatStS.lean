import Derived.Test.YtnjfioikpajhlaaGreatStR
import Derived.Test.YtnjfioikpajhlaaGreatPlainX
set_option maxRecDepth 100000
set_option maxHeartbeats 64000000
/- The store's law: awake. -/
namespace Go.Proofs.YtnjfioikpajhlaaGreat
open Go.RowKit Go.Shelf
namespace S6
theorem openS_fresh {n : Int} (h1 : 4 <= n) (hok : D.Ok (D.fresh n)) : ∃ S, openS (D.fresh n) = (S.L, some S, 0) /\ S.l = [] /\ S.num = 0 /\ SInv S n 1 := by
 obtain ⟨a1, Y, a2, a3, a4, a5⟩ := W5.fresh_open h1 hok
 refine ⟨⟨⟨Y, 1, [], false⟩, [], 0, false⟩, ?_, rfl, rfl, rfl, rfl, a3, a4, a5, Nat.le_refl _, Nat.zero_le _, rfl, List.Pairwise.nil, (fun p hp => by cases hp), Nat.zero_le _, (fun p hp => by cases hp)⟩
 unfold openS
 rw [if_neg (by rw [a1]; decide), a2]
 rfl
def wa : Wr := ⟨[97], [49], false, 0⟩
theorem wa_good : Good [] [wa] := ⟨by decide, (fun x hx => by rw [List.mem_singleton] at hx; subst hx; exact ⟨by decide, by decide, by decide⟩), List.pairwise_singleton _ _, (fun x hx h => by rw [List.mem_singleton] at hx; subst hx; cases h), (fun x hx => by rw [List.mem_singleton] at hx; subst hx; rfl)⟩
theorem wa_apl : apl [] 1 [wa] = [⟨[97], [49], 1⟩] := rfl
theorem wa_batch (n : Nat) (x : Wr) (hx : x = ⟨[97], [49], false, 0⟩) (hn : n < 128) : (batchB n [x]).length = 7 := by
 subst hx
 unfold batchB
 rw [W.vb_small n (by omega), wrsB_cons]
 simp only [List.length_append, List.length_singleton, wrsB, List.flatMap_nil, List.length_nil, wrB]
 rw [W.vb_small 1 (by omega)]
 rfl
theorem wa_commit {S : St} {n : Int} (h : SInv S n 1) (hl : S.l = []) (hn : S.num = 0) (h20 : n = 20) (hok : D.Ok S.L.d) : ∃ T, commit S [wa] = (T, 1, 0) /\ T.l = [⟨[97], [49], 1⟩] /\ T.num = 1 := by
 have hb : (batchB (S.num + 1) [wa]).length = 7 := wa_batch _ wa rfl (by omega)
 have ha : areaS S = 9 := by unfold areaS W5.area; rw [h.nn, h20]; rfl
 have hap : apl S.l (S.num + 1) [wa] = [⟨[97], [49], 1⟩] := by rw [hl, hn]; exact wa_apl
 have hnd : needsL (apl S.l (S.num + 1) [wa]) = 2 := by
  rw [hap]
  unfold needsL wsum
  rw [List.map_singleton, List.sum_singleton]
  unfold needP
  rw [show prB ⟨[97], [49], 1⟩ = batchB 1 [wa] from rfl, wa_batch 1 wa rfl (by omega)]
  rfl
 cases commit_out h hok (by omega) [wa] with
 | no c h0 he hw =>
  rcases hw with ⟨h1, _⟩ | ⟨_, _, h1, _⟩ | ⟨_, _, _, h1, _⟩
  ·rw [hl] at h1; exact absurd (good_wrong wa_good) h1
  ·omega
  ·omega
 | nil hw he => cases hw
 | yes T hw hg hb hf he hl2 hn2 hi => exact ⟨T, by rw [he, hn], hl2.trans hap, by omega⟩
end S6
theorem awake6 (w : World) : Calls Tryz.prog 4 #[] w fun e w' => e = .returned (.bool true) /\ Ext w w' := by
 go_enter Tryz.func4, Tryz.ntmps4
 go_wp2_with fail
 refine (held_new 20 w (by omega) (by omega)).mono ?_
 rintro e w1 ⟨rfl, H1⟩
 generalize w.heap.size + 1 = p at *
 obtain ⟨S, f1, f2, f3, f4⟩ := S6.openS_fresh (n := 20) (by decide) H1.okd
 have hop := open6_any H1 (Nat.zero_le _)
 rw [f1] at hop
 have HOP := qh hop
 clear hop H1
 go_wp2_with fail
 unfold Opened6 at HOP
 refine HOP.out.mono ?_
 clear HOP
 rintro e w2 (⟨_, q, hS, rfl, hq, hL, _⟩ | ⟨h9, _⟩)
 ·obtain rfl : S = _ := Option.some.inj hS
  have HL := qh hL
  have HI := qh f4
  obtain ⟨T, e1, e2, e3⟩ := S6.wa_commit f4 f2 f3 rfl hL.held.okd
  have hwt := f4.wait
  clear hL f1 f2 f3 f4 hS hq
  have k1 := Lib.run_convert_bytes_const (P := Tryz.prog) w2 56 5 #[.int .u8 49] 1 1 Tryz.underlying56 Tryz.underlying5
  obtain ⟨w3, hw3⟩ : ∃ w3, w3 = w2.alloc (.cells #[.int .u8 49] 5 (1, 2)) := ⟨_, rfl⟩
  have hb3 : Bs w3 (.slice (some ⟨w2.heap.size, 0, none⟩) 1 1) [49] := by rw [hw3]; exact Bs.litM w2 [49] 5 (1, 2) (by simp [maxLen])
  have hx3 : Ext w2 w3 := by rw [hw3]; exact Ext.of_alloc w2 _
  have hs3 : w3.heap.size = w2.heap.size + 1 := by rw [hw3]; exact World.size_alloc _ _
  have hws := WrsIn.one w3 (New (fun k => k < w.heap.size) w2 w3) S6.wa _ hb3 (fun k hk => by
   obtain rfl : w2.heap.size = k := Option.some.inj hk
   exact .inr ⟨Nat.le_refl _, by omega⟩)
  have hcm := commit_any ((HL.out.all hx3).all (Ext.of_alloc w3 _)) _ _ hws hwt
  rw [e1, hs3] at hcm
  have HCM := qh hcm
  clear hb3 hx3 hs3 hws hcm e1
  go_wp2_with fail
  subst hw3
  refine HCM.out.mono ?_
  clear HCM k1
  rintro e w4 ⟨rfl, hT, _⟩
  have hlk : S6.look T.l [97] = some ⟨[97], [49], 1⟩ := by rw [e2]; rfl
  have hge := stod_get hT [97]
  rw [hlk] at hge
  have hget : Calls Tryz.prog 21 #[.pointer (some ⟨q, 0, none⟩), .string ⟨#[97]⟩] w4 fun e w' => ∃ v' : Value, e = .returned (.tuple #[v', .int .u64 1, .bool true]) /\ Ext w4 w' /\ w'.ownsRow w4.heap.size 5 1 v' 1 ([(49 : UInt8)].map byteVal) := hge
  have HT := qh hT
  have HGE := qh hget
  clear hT hge hget hlk HI hwt HL
  go_wp2_with fail
  refine HGE.out.mono ?_
  clear HGE
  rintro e w5 ⟨v5, rfl, hx5, hr5⟩
  have hb5 : Bs w5 v5 [49] := Bs.of_own hr5
  have HT5 := qh (HT.out.after hx5)
  have cv := hb5.toString (P := Tryz.prog) 56 9 5 Tryz.underlying56 Tryz.underlying5 Tryz.underlying9
  obtain ⟨a5, c5, h5⟩ := hb5.shape
  have h5' : v5 = .slice a5 1 c5 := h5
  subst h5'
  have hle := stod_len HT5.out
  rw [e2] at hle
  have HLE := qh hle
  have hnu := stod_number HT5.out
  rw [e3] at hnu
  have HNU := qh hnu
  have hra := stod_range HT5.out [] []
  rw [S6.range_all, e2] at hra
  have HRA := qh hra
  clear h5 hb5 hr5 hx5 HT hle hnu hra e2 e3
  go_wp2_with fail
  refine HLE.out.mono ?_
  clear HLE
  rintro e w6 ⟨rfl, rfl⟩
  go_wp2_with fail
  refine HNU.out.mono ?_
  clear HNU
  rintro e w6 ⟨rfl, rfl⟩
  go_wp2_with fail
  refine HRA.out.mono ?_
  clear HRA
  rintro e w6 ⟨v6, us6, rfl, hP6, hx6⟩
  have HX := qh (HT5.out.toExt.trans hx6)
  obtain ⟨a6, c6, rfl⟩ : ∃ a c, v6 = .slice a 1 c := by
   obtain ⟨g, c, h1⟩ := Go.Joins.ownsRow_form hP6.row (by decide)
   exact ⟨_, c, h1⟩
  clear hP6 hx6 HT5 cv
  go_wp2
  go_ret
  exact ⟨rfl, HX.out⟩
 ·cases h9
end Go.Proofs.YtnjfioikpajhlaaGreat
