/- MSt5: StT StU StV StW. -/
import Derived.Test.YtnjfioikpajhlaaStS
import Derived.Test.YtnjfioikpajhlaaMDisk
import Derived.Test.YtnjfioikpajhlaaPlainY
/- The store's law: a script of calls in memory; begun. -/
namespace Go.Proofs.Ytnjfioikpajhlaa
open Go.RowKit Go.Shelf

structure Act6 where
  kind : Int
  n : Int
  puts : List S6.Pt
  keep : List Bool
/-- A call of the law's script in memory. -/
def Act6At (w : World) (b o : Nat) (x : Act6) : Prop := ∃ pv kv, w.cell? ⟨b, o, none⟩ = some (.int .i64 x.kind) ∧ w.cell? ⟨b, o + 1, none⟩ = some (.int .i64 x.n) ∧ w.cell? ⟨b, o + 2, none⟩ = some pv ∧ w.cell? ⟨b, o + 3, none⟩ = some kv ∧ PutsIn w pv x.puts ∧ Reads w kv (x.keep.map Value.bool) ∧ (Lit.int .i64 x.kind).wf = true ∧ (Lit.int .i64 x.n).wf = true
theorem Act6At.ext {w w' : World} {b o : Nat} {x : Act6} (h : Act6At w b o x) (hx : Ext w w') : Act6At w' b o x := by
  obtain ⟨pv, kv, h0, h1, h2, h3, h4, h5, h6⟩ := h
  exact ⟨pv, kv, hx.cell h0, hx.cell h1, hx.cell h2, hx.cell h3, h4.ext hx, h5.ext hx, h6⟩
def Acts6In (w : World) (v : Value) (l : List Act6) : Prop := ∃ a cap, v = .slice a l.length cap ∧ l.length ≤ 9223372036854775807 ∧ (l = [] ∨ ∃ b off, a = some ⟨b, off, none⟩ ∧ ∀ r (h : r < l.length), Act6At w b (off + r * 4) l[r])
theorem Acts6In.at {w : World} {a : Option Addr} {n cap : Nat} {l : List Act6} (h : Acts6In w (.slice a n cap) l) (r : Nat) (hr : r < l.length) : ∃ b off, a = some ⟨b, off, none⟩ ∧ Act6At w b (off + r * 4) l[r] := by
  obtain ⟨a', cap', hv, _, h4⟩ := h
  obtain ⟨rfl, _, rfl⟩ := Value.slice.inj hv
  rcases h4 with rfl | ⟨b, off, rfl, hc⟩
  · simp at hr
  · exact ⟨b, off, rfl, hc r hr⟩
theorem Acts6In.ext {w w' : World} {v : Value} {l : List Act6} (h : Acts6In w v l) (hx : Ext w w') : Acts6In w' v l := by
  obtain ⟨a, cap, hv, hl, h4⟩ := h
  refine ⟨a, cap, hv, hl, ?_⟩
  rcases h4 with h4 | ⟨b, off, hb, hc⟩
  · exact .inl h4
  · exact .inr ⟨b, off, hb, fun r hr => (hc r hr).ext hx⟩
theorem Acts6In.nil (w : World) : Acts6In w (.slice none 0 0) [] := ⟨none, 0, rfl, by simp, .inl rfl⟩
theorem Acts6In.shape {w : World} {v : Value} {l : List Act6} (h : Acts6In w v l) : ∃ a cap, v = .slice a l.length cap ∧ l.length ≤ 9223372036854775807 := by
  obtain ⟨a, cap, hv, hl, _⟩ := h
  exact ⟨a, cap, hv, hl⟩
theorem results_begun {fn : Func} {a b c d : Tmp} (h : fn.results = #[.tmp a, .tmp b, .cell c 37, .tmp d]) (tmps : Array Value) (w : World) (g : Nat) (t : TypeId) (cs : Array Value) (fr : Nat × Nat)
    (hp : tmps.getD c undef = .pointer (some ⟨g, 0, none⟩)) (hg : w.heap[g]? = some (.cells cs t fr)) (hi : (Try.prog.info? 37).map (·.size) = some cs.size) :
    (results fn tmps).run Try.prog w = .ok (.tuple #[tmps.getD a undef, tmps.getD b undef, .agg cs, tmps.getD d undef]) w := by
  have hp' : tmps[c]?.getD undef = .pointer (some ⟨g, 0, none⟩) := by simpa using hp
  have hr := run_loadVar_row w g t 37 cs fr _ hg Try.underlying37 rfl hi
  simp [results, h, hp', asAddr, hr]
theorem Held.rebase {w0 w1 w : World} {X : Nat → Prop} {p : Nat} {d : D.Dsk} (h : Held w1 w X p d) (hx : Ext w0 w1) : Held w0 w X p d :=
  ⟨h.inn, fun k hk => h.old k (Nat.lt_of_lt_of_le hk hx.size), h.lt, hx.trans h.ext⟩
def zst : Array Value := #[.int .i64 0, .slice none 0 0, .slice none 0 0, .bool false, .bool false, .int .i64 0, .int .u32 0, .slice none 0 0, .bool false, .slice none 0 0, .int .u64 0, .bool false]

set_option maxRecDepth 100000 in
set_option maxHeartbeats 6400000 in
theorem begun6 (n : Int) (sv : Value) (l : List Act6) (w : World) (hs : Acts6In w sv l) (hl : l.length ≤ 30) (h1 : 4 ≤ n) (h2 : n ≤ 60) :
    Calls Try.prog 10 #[.int .i64 n, sv] w fun e w' => ∃ p q S pv, e = .returned (.tuple #[.pointer (some ⟨p, 0, none⟩), .pointer (some ⟨q, 0, none⟩), s6v gz pv S.num false, .bool true]) ∧ Stod w w' (fun k => k < w.heap.size ∨ pv.ownBlock = some k) p q S ∧ S6.SInv S n 31 ∧ w'.ownsRow w.heap.size 54 3 pv S.l.length (prcs S.l (svals S.l)) := by
  obtain ⟨a, cap, rfl, _⟩ := hs.shape
  have HS := Lib.hid hs
  clear hs
  have d1 : decide (n < 4) = false := decide_eq_false (by omega)
  have d2 : decide (60 < n) = false := decide_eq_false (by omega)
  have d3 : decide ((30 : Int) < (l.length : Int)) = false := decide_eq_false (by omega)
  have hli : (l.length : Int) ≤ 30 := by omega
  go_enter Try.func10, Try.ntmps10
  go_wp2_with fail
  have hz0 : (w.alloc (.cells zst 37)).heap[w.heap.size]? = some (.cells zst 37 (0, 0)) := heap_alloc_new w _
  have hx1 : Ext w ((w.alloc (.cells zst 37)).alloc (.cells zst 37)) := Ext.alloc (Ext.of_alloc w _) _
  have hz1 := (Below.block (B := (w.alloc (.cells zst 37)).heap.size) (Ext.of_alloc (w.alloc (.cells zst 37)) (.cells zst 37)) w.heap.size (by simp)).trans hz0
  have hs1 : ((w.alloc (.cells zst 37)).alloc (.cells zst 37)).heap.size = w.heap.size + 2 := by simp
  unfold zst at hz0 hx1 hz1 hs1
  clear hz0
  generalize (w.alloc (.cells _ 37)).alloc (.cells _ 37) = w1 at *
  refine (held_new n w1 (by omega) (by omega)).mono ?_
  rintro e w2 ⟨rfl, H0⟩
  have H1 := H0.rebase hx1
  have hz2 := (Below.block (B := w1.heap.size) H0.ext w.heap.size (by omega)).trans hz1
  obtain ⟨S, f1, f2, f3, f4⟩ := S6.openS_fresh (n := n) h1 H1.okd
  have hop := open6_any H1 (Nat.zero_le _)
  rw [f1] at hop
  have HOP := Lib.hid hop
  have HZ2 := Lib.hid hz2
  have HS1 := Lib.hid hs1
  generalize w1.heap.size + 1 = p at *
  clear hop H1 H0 hz1 hz2 hs1 hx1
  go_wp2_with fail
  unfold Opened6 at HOP
  refine HOP.out.mono ?_
  clear HOP
  rintro e w3 (⟨_, q, hS, rfl, hq, hL, hK⟩ | ⟨h9, _⟩)
  · obtain rfl : S = _ := Option.some.inj hS
    have HL := Lib.hid hL
    have HI := Lib.hid f4
    have HZ3 := Lib.hid (blk_mod HZ2.out hK (fun hx => hx (by have := HS1.out; omega)))
    clear hL f1 f2 f3 f4 hS hq d1 d2 d3 HZ2 hK h1 h2
    go_wp2
    go_loopw [12] (fun iv wr => ∃ k : Nat, ∃ S, k ≤ l.length ∧ iv = .int .i64 (k : Int) ∧ Hid (Stod w wr (fun k => k < w1.heap.size) p q S) ∧ Hid (S6.SInv S n (k + 1)) ∧ Hid (wr.heap[w.heap.size]? = some (.cells zst 37 (0, 0)))) (fun iv _ => l.length - (intOf iv).toNat)
    case atStart => exact ⟨0, S, by omega, rfl, HL, HI, HZ3⟩
    case round =>
      clear HL HI HZ3
      obtain ⟨k, S, hk, rfl, hL, hI, hZ⟩ := hrel
      obtain ⟨hsr, hpk, hnm, hln⟩ := hL.out.facts
      by_cases hlt : k < l.length
      · have hlti : (k : Int) < (l.length : Int) := by omega
        obtain ⟨b, off, rfl, hact⟩ := HS.out.at k hlt
        generalize l[k] = x at *
        obtain ⟨kind, xn, puts, keep⟩ := x
        obtain ⟨pv, kv, g0, g1, g2, g3, hpu, _, wf0, _⟩ := hact.ext hL.out.toExt
        simp only at g0 g1 g2 g3 hpu wf0
        obtain ⟨_, pa, pc, rfl, _⟩ := hpu.shape
        have hkn := fun (W : World) (hx : Ext wr W) => known_any (hL.out.after hx)
        have hwr := fun (W : World) (v : Value) (hx : Ext wr W) (ho : W.ownsRow wr.heap.size 54 3 v S.l.length (prcs S.l (svals S.l))) => writes6_any W gz v S.num false S.l _ puts (RPs.of_own ho) (by omega) (fun k hk => (ho.lt k hk).2) (fun p hp => by have := (hpk p hp).ver; unfold S6.lastN at hnm; omega) (hpu.ext hx) (by simp [gz, Value.oneCell'])
        have HWR := Lib.hid hwr
        have HKN := Lib.hid hkn
        have hx0 := Ext.of_drew wr
        clear hact g1 g3 hpu hwr hkn hsr hpk hnm
        go_wp2_with fail
        go_region_held3 (fun w' => w'.cell? ⟨b, off + k * 4 + 2, none⟩ = some (.slice pa puts.length pc)) (first
            | exact Ext.cell hx0 g2
            | exact Ext.cell (hx0.trans hx5) g2
            | exact Ext.cell ((hx0.trans hx5).trans hx6) g2) (first
          | (go_at_call 13; refine (HKN.out _ hx0).mono ?_; rintro e w5 ⟨v5, rfl, hown5, hx5⟩)
          | (go_at_call 11; refine (HWR.out _ _ (hx0.trans hx5) (ownsRow_base5 hown5 hx0.size)).mono ?_; rintro e w6 ⟨xv, yv, us, rfl, hW6, hY6, hx6⟩))
        have hx56 := (hx0.trans hx5).trans hx6
        have g0' := Ext.cell hx56 g0
        have hwrs := hW6.wrs (X := New (fun k => k < w1.heap.size) wr _) (fun k h1 h2 => .inr ⟨Nat.le_trans (hx0.trans hx5).size h1, h2⟩)
        have hcm := commit_any (hL.out.all hx56) xv _ hwrs hI.out.wait
        have HCM := Lib.hid hcm
        have HI2 := Lib.hid (hI.out.commit hL.out.held.okd (by omega) (S6.wsOf S.l puts))
        have HI3 := Lib.hid (hI.out.le (Nat.le_succ (k + 1)))
        have HL6 := Lib.hid (hL.out.after hx56)
        have hlt2 := blk_lt hZ.out
        have HZ6 := Lib.hid ((Below.block (B := wr.heap.size) hx56 w.heap.size hlt2).trans hZ.out)
        clear hW6 hY6 hx5 hx6 hx56 hx0 hown5 hwrs hcm HKN HWR g0 g2
        by_cases k0 : kind = 0
        · subst k0
          go_wp2_with fail
          refine HCM.out.mono ?_
          clear HCM
          rintro e w7 ⟨rfl, hL7, hK7⟩
          have HL7 := Lib.hid (hL7.less (X' := fun k => k < w1.heap.size) (fun k hk => .inl hk) (fun k hk => by have := HS1.out; omega))
          have HZ7 := Lib.hid (blk_mod HZ6.out hK7 (fun hx => hx (.inl (by have := HS1.out; omega))))
          clear hL7 hK7 HL6 HZ6 hlt2
          go_wp2
          go_roundw
          case rel => exact ⟨k + 1, _, by omega, by go_num, HL7, HI2, HZ7⟩
          case measure => (simp [intOf]; try omega)
        · have k0b : (kind == 0) = false := by rw [beq_eq_false_iff_ne]; exact k0
          clear k0 HCM HI2 hlt2
          go_wp2
          go_roundw
          case rel => exact ⟨k + 1, S, by omega, by go_num, HL6, HI3, HZ6⟩
          case measure => (simp [intOf]; try omega)
      · have hge : ¬ (k : Int) < (l.length : Int) := by omega
        clear hsr hpk hnm hln HS
        have hkn := known_any hL.out
        have HKN := Lib.hid hkn
        have HX := Lib.hid hL.out.lt
        clear hkn
        go_wp2_with fail
        refine HKN.out.mono ?_
        clear HKN
        rintro e w5 ⟨v5, rfl, hown5, hx5⟩
        have HL5 := Lib.hid (hL.out.all hx5)
        have HI5 := Lib.hid (hI.out.le (show k + 1 ≤ 31 by omega))
        have hlt2 := blk_lt hZ.out
        have hb5 := (Below.block (B := wr.heap.size) hx5 w.heap.size hlt2).trans hZ.out
        unfold zst at hb5
        have HO5 := Lib.hid hown5
        obtain ⟨va, vc, rfl⟩ : ∃ va vc, v5 = .slice va S.l.length vc := by
          rcases hown5.2 with ⟨h9, h10⟩ | ⟨g, cp, cur, h9, _⟩
          · exact ⟨_, _, by rw [h9, h10]⟩
          · exact ⟨_, _, h9⟩
        have HTH := Lib.hid (there_blk (cs := [.int .i64 0, .slice none 0 0, .slice none 0 0, .bool false, .bool false, .int .i64 0, .int .u32 0, .slice none 0 0, .bool false, .slice none 0 0, .int .u64 0, .bool false]) hb5 0 12 (by simp))
        have HMS := Lib.hid (mod_setCells (fun z => z = w.heap.size) w5 w.heap.size 0 [.int .i64 0, .slice none 0 0, .slice none 0 0, .bool false, .bool false, .int .i64 0, .int .u32 0, .slice none 0 0, .bool false, .slice va S.l.length vc, .int .u64 (S.num : Int), .bool false] rfl)
        have HBS := Lib.hid (blk_setCells w.heap.size 37 [.int .i64 0, .slice none 0 0, .slice none 0 0, .bool false, .bool false, .int .i64 0, .int .u32 0, .slice none 0 0, .bool false, .slice va S.l.length vc, .int .u64 (S.num : Int), .bool false] 0 w5 [.int .i64 0, .slice none 0 0, .slice none 0 0, .bool false, .bool false, .int .i64 0, .int .u32 0, .slice none 0 0, .bool false, .slice none 0 0, .int .u64 0, .bool false] hb5 (by simp))
        have HLT := Lib.hid hlt2
        clear hx5 hb5 hlt2 hown5 hL hI hZ
        unfold s6v gz
        go_wp2_with (first
          | ((with_reducible show wpList _ _ _ (⟨none, Op.store _ _ _, _, _, _, _⟩ :: _) _ _); refine wpList_store_mid rfl 37 _ _ rfl w.heap.size 0 #[.int .i64 0, .slice none 0 0, .slice none 0 0, .bool false, .bool false, .int .i64 0, .int .u32 0, .slice none 0 0, .bool false, .slice va S.l.length vc, .int .u64 (S.num : Int), .bool false] (by rfl) (by rfl) HTH.out (by kernel_rfl) (by simp [Value.oneCell']) ?_)
          | fail)
        have hz4 : (w5.setCells w.heap.size 0 [.int .i64 0, .slice none 0 0, .slice none 0 0, .bool false, .bool false, .int .i64 0, .int .u32 0, .slice none 0 0, .bool false, .slice va S.l.length vc, .int .u64 (S.num : Int), .bool false]).heap[w.heap.size]? = some (.cells #[.int .i64 0, .slice none 0 0, .slice none 0 0, .bool false, .bool false, .int .i64 0, .int .u32 0, .slice none 0 0, .bool false, .slice va S.l.length vc, .int .u64 (S.num : Int), .bool false] 37 (0, 0)) := by rw [HBS.out]; simp
        refine bodyPost_ret_by (results_begun (a := 4) (b := 5) (c := 6) (d := 7) rfl _ _ w.heap.size 37 #[.int .i64 0, .slice none 0 0, .slice none 0 0, .bool false, .bool false, .int .i64 0, .int .u32 0, .slice none 0 0, .bool false, .slice va S.l.length vc, .int .u64 (S.num : Int), .bool false] _ (by rfl) hz4 (by kernel_rfl)) rfl ?_
        refine ⟨p, q, S, .slice va S.l.length vc, rfl, ?_, HI5.out, ?_⟩
        · exact (HL5.out.modX HMS.out (fun z hz => by have := HS1.out; subst hz; exact .inl (show w.heap.size < w1.heap.size by omega)) (fun z hz => by omega)).less (fun k hk => hk.elim (fun h => .inl (show k < w1.heap.size by have := HS1.out; omega)) (fun h => .inr (HO5.out.lt k h))) (fun k hk => .inl hk)
        · have hlt9 := HLT.out
          exact ownsRow_base5 (ownsRow_mod HO5.out HMS.out (fun z hz e => by have := (HO5.out.lt z hz).1; omega)) (Nat.le_of_lt hlt9)
  · cases h9
end Go.Proofs.Ytnjfioikpajhlaa
/- The store's law: begun, refused. (Printed by tools/mkstu.py.) -/
namespace Go.Proofs.Ytnjfioikpajhlaa
open Go.RowKit Go.Shelf

set_option maxRecDepth 100000 in
set_option maxHeartbeats 6400000 in
theorem begun6_bad (n : Int) (sv : Value) (l : List Act6) (w : World) (hs : Acts6In w sv l) (h : n < 4 ∨ 60 < n ∨ 30 < l.length) :
    Calls Try.prog 10 #[.int .i64 n, sv] w fun e w' => e = .returned (.tuple #[.pointer none, .pointer none, .agg zst, .bool false]) ∧ Ext w w' := by
  obtain ⟨a, cap, rfl, _⟩ := hs.shape
  clear hs
  by_cases h1 : n < 4
  · clear h
    go_enter Try.func10, Try.ntmps10
    go_upto_region 3 with fail
    have hz0 : (w.alloc (.cells zst 37)).heap[w.heap.size]? = some (.cells zst 37 (0, 0)) := heap_alloc_new w _
    have hx1 : Ext w ((w.alloc (.cells zst 37)).alloc (.cells zst 37)) := Ext.alloc (Ext.of_alloc w _) _
    have hz1 := (Below.block (B := (w.alloc (.cells zst 37)).heap.size) (Ext.of_alloc (w.alloc (.cells zst 37)) (.cells zst 37)) w.heap.size (by simp)).trans hz0
    have hs1 : ((w.alloc (.cells zst 37)).alloc (.cells zst 37)).heap.size = w.heap.size + 2 := by simp
    have hy1 : ((w.alloc (.cells zst 37)).alloc (.cells zst 37)).heap[w.heap.size + 1]? = some (.cells zst 37 (0, 0)) := by
      have := heap_alloc_new (w.alloc (.cells zst 37)) (.cells zst 37)
      rw [World.size_alloc] at this
      exact this
    unfold zst at hz0 hx1 hz1 hs1 hy1
    clear hz0
    generalize (w.alloc (.cells _ 37)).alloc (.cells _ 37) = w1 at *
    have HBX : Hid (∀ W, Ext w1 W → W.cell? ⟨w.heap.size + 1, 0, none⟩ = some (.int .i64 0) ∧ W.cell? ⟨w.heap.size + 1, 1, none⟩ = some (.slice none 0 0) ∧ W.cell? ⟨w.heap.size + 1, 2, none⟩ = some (.slice none 0 0) ∧ W.cell? ⟨w.heap.size + 1, 3, none⟩ = some (.bool false) ∧ W.cell? ⟨w.heap.size + 1, 4, none⟩ = some (.bool false) ∧ W.cell? ⟨w.heap.size + 1, 5, none⟩ = some (.int .i64 0) ∧ W.cell? ⟨w.heap.size + 1, 6, none⟩ = some (.int .u32 0) ∧ W.cell? ⟨w.heap.size + 1, 7, none⟩ = some (.slice none 0 0) ∧ W.cell? ⟨w.heap.size + 1, 8, none⟩ = some (.bool false) ∧ W.cell? ⟨w.heap.size + 1, 9, none⟩ = some (.slice none 0 0) ∧ W.cell? ⟨w.heap.size + 1, 10, none⟩ = some (.int .u64 0) ∧ W.cell? ⟨w.heap.size + 1, 11, none⟩ = some (.bool false)) := fun W hW => by
      have hb := (Below.block (B := w1.heap.size) hW (w.heap.size + 1) (by omega)).trans hy1
      exact ⟨(blk_cell hb 0).trans rfl, (blk_cell hb 1).trans rfl, (blk_cell hb 2).trans rfl, (blk_cell hb 3).trans rfl, (blk_cell hb 4).trans rfl, (blk_cell hb 5).trans rfl, (blk_cell hb 6).trans rfl, (blk_cell hb 7).trans rfl, (blk_cell hb 8).trans rfl, (blk_cell hb 9).trans rfl, (blk_cell hb 10).trans rfl, (blk_cell hb 11).trans rfl⟩
    have hxd := Ext.of_drew w1
    have hzd := (Below.block (B := w1.heap.size) hxd w.heap.size (by omega)).trans hz1
    have HTH := Lib.hid (there_blk (cs := [.int .i64 0, .slice none 0 0, .slice none 0 0, .bool false, .bool false, .int .i64 0, .int .u32 0, .slice none 0 0, .bool false, .slice none 0 0, .int .u64 0, .bool false]) hzd 0 12 (by simp))
    have HMS := Lib.hid (mod_setCells (fun z => z = w.heap.size) w1.drew w.heap.size 0 (#[.int .i64 0, .slice none 0 0, .slice none 0 0, .bool false, .bool false, .int .i64 0, .int .u32 0, .slice none 0 0, .bool false, .slice none 0 0, .int .u64 0, .bool false] : Array Value).toList rfl)
    have HBS := Lib.hid (blk_setCells w.heap.size 37 (#[.int .i64 0, .slice none 0 0, .slice none 0 0, .bool false, .bool false, .int .i64 0, .int .u32 0, .slice none 0 0, .bool false, .slice none 0 0, .int .u64 0, .bool false] : Array Value).toList 0 w1.drew [.int .i64 0, .slice none 0 0, .slice none 0 0, .bool false, .bool false, .int .i64 0, .int .u32 0, .slice none 0 0, .bool false, .slice none 0 0, .int .u64 0, .bool false] hzd (by simp))
    have HXA := Lib.hid (Mod.ext (hx1.trans hxd) HMS.out (fun z hz => by omega))
    have hHX := hxd
    have hHeld := hHX
    clear hz1 hs1 hy1 hzd hx1
    refine wp_region_C (fun w' => Ext w1 w') 3 (by kernel_rfl) ?_
    (refine wpAnyC_take [3] (i := 0) (oi := ⟨some 27, _, _, _, _, _⟩) (v := ?_) rfl (by kernel_rfl) (by kernel_rfl) (by kernel_rfl) (by kernel_rfl) (fun _ _ _ h => h) (Or.inl ⟨by rfl, ?_⟩) hHeld ?_; rotate_left; (focus (intro w hSw; ((obtain ⟨qa, qb, qc, qd, qe, qf, qg, qh, qi, qj, qk, ql⟩ := HBX.out _ hSw)); go_simp; first | done | with_reducible rfl)); try simp only [Act.put, List.setIfInBounds_toArray, List.set_cons_zero, List.set_cons_succ])
    (refine wpAnyC_take [3] (i := 1) (oi := ⟨some 4, _, _, _, _, _⟩) (v := ?_) rfl (by kernel_rfl) (by kernel_rfl) (by kernel_rfl) (by kernel_rfl) (fun _ _ _ h => h) (Or.inl ⟨by rfl, ?_⟩) hHeld ?_; rotate_left; (focus (intro w hSw; (skip); go_simp; first | done | with_reducible rfl)); try simp only [Act.put, List.setIfInBounds_toArray, List.set_cons_zero, List.set_cons_succ])
    (refine wpAnyC_take [3] (i := 2) (oi := ⟨some 5, _, _, _, _, _⟩) (v := ?_) rfl (by kernel_rfl) (by kernel_rfl) (by kernel_rfl) (by kernel_rfl) (fun _ _ _ h => h) (Or.inl ⟨by rfl, ?_⟩) hHeld ?_; rotate_left; (focus (intro w hSw; (skip); go_simp; first | done | with_reducible rfl)); try simp only [Act.put, List.setIfInBounds_toArray, List.set_cons_zero, List.set_cons_succ])
    refine wpAnyC_c (oi := ⟨none, _, _, _, _, _⟩) rfl (by kernel_rfl) (fun K hK => ?_)
    rw [if_pos (by rfl)]
    refine wp_store_mid 37 _ _ rfl w.heap.size 0 #[.int .i64 0, .slice none 0 0, .slice none 0 0, .bool false, .bool false, .int .i64 0, .int .u32 0, .slice none 0 0, .bool false, .slice none 0 0, .int .u64 0, .bool false] rfl rfl HTH.out (by kernel_rfl) (by simp [Value.oneCell']) ?_
    refine hK.out _ _ ?_
    clear hK K
    try simp only [Act.put]
    (refine wpAny_take (i := 4) (oi := ⟨some 7, _, _, _, _, _⟩) (v := ?_) rfl (by kernel_rfl) (by kernel_rfl) (by kernel_rfl) (fun _ _ _ h => h) (Or.inl ⟨by rfl, ?_⟩) ?_; rotate_left; (focus (intro w; go_simp; first | done | with_reducible rfl)); try simp only [Act.put, List.setIfInBounds_toArray, List.set_cons_zero, List.set_cons_succ])
    refine wpAny_done (by kernel_rfl) ?_ _
    go_wp2
    have hz4 := HBS.out
    refine bodyPost_ret_by (results_begun (a := 4) (b := 5) (c := 6) (d := 7) rfl _ _ w.heap.size 37 zst _ (by rfl) (by rw [HBS.out]; rfl) (by kernel_rfl)) rfl ?_
    exact ⟨rfl, HXA.out⟩
  · have d1 : decide (n < 4) = false := decide_eq_false h1
    by_cases h2 : 60 < n
    · clear h h1
      go_enter Try.func10, Try.ntmps10
      go_upto_region 3 with fail
      have hz0 : (w.alloc (.cells zst 37)).heap[w.heap.size]? = some (.cells zst 37 (0, 0)) := heap_alloc_new w _
      have hx1 : Ext w ((w.alloc (.cells zst 37)).alloc (.cells zst 37)) := Ext.alloc (Ext.of_alloc w _) _
      have hz1 := (Below.block (B := (w.alloc (.cells zst 37)).heap.size) (Ext.of_alloc (w.alloc (.cells zst 37)) (.cells zst 37)) w.heap.size (by simp)).trans hz0
      have hs1 : ((w.alloc (.cells zst 37)).alloc (.cells zst 37)).heap.size = w.heap.size + 2 := by simp
      have hy1 : ((w.alloc (.cells zst 37)).alloc (.cells zst 37)).heap[w.heap.size + 1]? = some (.cells zst 37 (0, 0)) := by
        have := heap_alloc_new (w.alloc (.cells zst 37)) (.cells zst 37)
        rw [World.size_alloc] at this
        exact this
      unfold zst at hz0 hx1 hz1 hs1 hy1
      clear hz0
      generalize (w.alloc (.cells _ 37)).alloc (.cells _ 37) = w1 at *
      have HBX : Hid (∀ W, Ext w1 W → W.cell? ⟨w.heap.size + 1, 0, none⟩ = some (.int .i64 0) ∧ W.cell? ⟨w.heap.size + 1, 1, none⟩ = some (.slice none 0 0) ∧ W.cell? ⟨w.heap.size + 1, 2, none⟩ = some (.slice none 0 0) ∧ W.cell? ⟨w.heap.size + 1, 3, none⟩ = some (.bool false) ∧ W.cell? ⟨w.heap.size + 1, 4, none⟩ = some (.bool false) ∧ W.cell? ⟨w.heap.size + 1, 5, none⟩ = some (.int .i64 0) ∧ W.cell? ⟨w.heap.size + 1, 6, none⟩ = some (.int .u32 0) ∧ W.cell? ⟨w.heap.size + 1, 7, none⟩ = some (.slice none 0 0) ∧ W.cell? ⟨w.heap.size + 1, 8, none⟩ = some (.bool false) ∧ W.cell? ⟨w.heap.size + 1, 9, none⟩ = some (.slice none 0 0) ∧ W.cell? ⟨w.heap.size + 1, 10, none⟩ = some (.int .u64 0) ∧ W.cell? ⟨w.heap.size + 1, 11, none⟩ = some (.bool false)) := fun W hW => by
        have hb := (Below.block (B := w1.heap.size) hW (w.heap.size + 1) (by omega)).trans hy1
        exact ⟨(blk_cell hb 0).trans rfl, (blk_cell hb 1).trans rfl, (blk_cell hb 2).trans rfl, (blk_cell hb 3).trans rfl, (blk_cell hb 4).trans rfl, (blk_cell hb 5).trans rfl, (blk_cell hb 6).trans rfl, (blk_cell hb 7).trans rfl, (blk_cell hb 8).trans rfl, (blk_cell hb 9).trans rfl, (blk_cell hb 10).trans rfl, (blk_cell hb 11).trans rfl⟩
      have hxd := Ext.of_drew w1
      have hzd := (Below.block (B := w1.heap.size) hxd w.heap.size (by omega)).trans hz1
      have HTH := Lib.hid (there_blk (cs := [.int .i64 0, .slice none 0 0, .slice none 0 0, .bool false, .bool false, .int .i64 0, .int .u32 0, .slice none 0 0, .bool false, .slice none 0 0, .int .u64 0, .bool false]) hzd 0 12 (by simp))
      have HMS := Lib.hid (mod_setCells (fun z => z = w.heap.size) w1.drew w.heap.size 0 (#[.int .i64 0, .slice none 0 0, .slice none 0 0, .bool false, .bool false, .int .i64 0, .int .u32 0, .slice none 0 0, .bool false, .slice none 0 0, .int .u64 0, .bool false] : Array Value).toList rfl)
      have HBS := Lib.hid (blk_setCells w.heap.size 37 (#[.int .i64 0, .slice none 0 0, .slice none 0 0, .bool false, .bool false, .int .i64 0, .int .u32 0, .slice none 0 0, .bool false, .slice none 0 0, .int .u64 0, .bool false] : Array Value).toList 0 w1.drew [.int .i64 0, .slice none 0 0, .slice none 0 0, .bool false, .bool false, .int .i64 0, .int .u32 0, .slice none 0 0, .bool false, .slice none 0 0, .int .u64 0, .bool false] hzd (by simp))
      have HXA := Lib.hid (Mod.ext (hx1.trans hxd) HMS.out (fun z hz => by omega))
      have hHX := hxd
      have hHeld := hHX
      clear hz1 hs1 hy1 hzd hx1
      refine wp_region_C (fun w' => Ext w1 w') 3 (by kernel_rfl) ?_
      (refine wpAnyC_take [3] (i := 0) (oi := ⟨some 27, _, _, _, _, _⟩) (v := ?_) rfl (by kernel_rfl) (by kernel_rfl) (by kernel_rfl) (by kernel_rfl) (fun _ _ _ h => h) (Or.inl ⟨by rfl, ?_⟩) hHeld ?_; rotate_left; (focus (intro w hSw; ((obtain ⟨qa, qb, qc, qd, qe, qf, qg, qh, qi, qj, qk, ql⟩ := HBX.out _ hSw)); go_simp; first | done | with_reducible rfl)); try simp only [Act.put, List.setIfInBounds_toArray, List.set_cons_zero, List.set_cons_succ])
      (refine wpAnyC_take [3] (i := 1) (oi := ⟨some 4, _, _, _, _, _⟩) (v := ?_) rfl (by kernel_rfl) (by kernel_rfl) (by kernel_rfl) (by kernel_rfl) (fun _ _ _ h => h) (Or.inl ⟨by rfl, ?_⟩) hHeld ?_; rotate_left; (focus (intro w hSw; (skip); go_simp; first | done | with_reducible rfl)); try simp only [Act.put, List.setIfInBounds_toArray, List.set_cons_zero, List.set_cons_succ])
      (refine wpAnyC_take [3] (i := 2) (oi := ⟨some 5, _, _, _, _, _⟩) (v := ?_) rfl (by kernel_rfl) (by kernel_rfl) (by kernel_rfl) (by kernel_rfl) (fun _ _ _ h => h) (Or.inl ⟨by rfl, ?_⟩) hHeld ?_; rotate_left; (focus (intro w hSw; (skip); go_simp; first | done | with_reducible rfl)); try simp only [Act.put, List.setIfInBounds_toArray, List.set_cons_zero, List.set_cons_succ])
      refine wpAnyC_c (oi := ⟨none, _, _, _, _, _⟩) rfl (by kernel_rfl) (fun K hK => ?_)
      rw [if_pos (by rfl)]
      refine wp_store_mid 37 _ _ rfl w.heap.size 0 #[.int .i64 0, .slice none 0 0, .slice none 0 0, .bool false, .bool false, .int .i64 0, .int .u32 0, .slice none 0 0, .bool false, .slice none 0 0, .int .u64 0, .bool false] rfl rfl HTH.out (by kernel_rfl) (by simp [Value.oneCell']) ?_
      refine hK.out _ _ ?_
      clear hK K
      try simp only [Act.put]
      (refine wpAny_take (i := 4) (oi := ⟨some 7, _, _, _, _, _⟩) (v := ?_) rfl (by kernel_rfl) (by kernel_rfl) (by kernel_rfl) (fun _ _ _ h => h) (Or.inl ⟨by rfl, ?_⟩) ?_; rotate_left; (focus (intro w; go_simp; first | done | with_reducible rfl)); try simp only [Act.put, List.setIfInBounds_toArray, List.set_cons_zero, List.set_cons_succ])
      refine wpAny_done (by kernel_rfl) ?_ _
      go_wp2
      have hz4 := HBS.out
      refine bodyPost_ret_by (results_begun (a := 4) (b := 5) (c := 6) (d := 7) rfl _ _ w.heap.size 37 zst _ (by rfl) (by rw [HBS.out]; rfl) (by kernel_rfl)) rfl ?_
      exact ⟨rfl, HXA.out⟩
    · have d2 : decide (60 < n) = false := decide_eq_false h2
      have h3 : (30 : Int) < (l.length : Int) := by omega
      clear h h1 h2
      go_enter Try.func10, Try.ntmps10
      go_upto_region 3 with fail
      have hz0 : (w.alloc (.cells zst 37)).heap[w.heap.size]? = some (.cells zst 37 (0, 0)) := heap_alloc_new w _
      have hx1 : Ext w ((w.alloc (.cells zst 37)).alloc (.cells zst 37)) := Ext.alloc (Ext.of_alloc w _) _
      have hz1 := (Below.block (B := (w.alloc (.cells zst 37)).heap.size) (Ext.of_alloc (w.alloc (.cells zst 37)) (.cells zst 37)) w.heap.size (by simp)).trans hz0
      have hs1 : ((w.alloc (.cells zst 37)).alloc (.cells zst 37)).heap.size = w.heap.size + 2 := by simp
      have hy1 : ((w.alloc (.cells zst 37)).alloc (.cells zst 37)).heap[w.heap.size + 1]? = some (.cells zst 37 (0, 0)) := by
        have := heap_alloc_new (w.alloc (.cells zst 37)) (.cells zst 37)
        rw [World.size_alloc] at this
        exact this
      unfold zst at hz0 hx1 hz1 hs1 hy1
      clear hz0
      generalize (w.alloc (.cells _ 37)).alloc (.cells _ 37) = w1 at *
      have HBX : Hid (∀ W, Ext w1 W → W.cell? ⟨w.heap.size + 1, 0, none⟩ = some (.int .i64 0) ∧ W.cell? ⟨w.heap.size + 1, 1, none⟩ = some (.slice none 0 0) ∧ W.cell? ⟨w.heap.size + 1, 2, none⟩ = some (.slice none 0 0) ∧ W.cell? ⟨w.heap.size + 1, 3, none⟩ = some (.bool false) ∧ W.cell? ⟨w.heap.size + 1, 4, none⟩ = some (.bool false) ∧ W.cell? ⟨w.heap.size + 1, 5, none⟩ = some (.int .i64 0) ∧ W.cell? ⟨w.heap.size + 1, 6, none⟩ = some (.int .u32 0) ∧ W.cell? ⟨w.heap.size + 1, 7, none⟩ = some (.slice none 0 0) ∧ W.cell? ⟨w.heap.size + 1, 8, none⟩ = some (.bool false) ∧ W.cell? ⟨w.heap.size + 1, 9, none⟩ = some (.slice none 0 0) ∧ W.cell? ⟨w.heap.size + 1, 10, none⟩ = some (.int .u64 0) ∧ W.cell? ⟨w.heap.size + 1, 11, none⟩ = some (.bool false)) := fun W hW => by
        have hb := (Below.block (B := w1.heap.size) hW (w.heap.size + 1) (by omega)).trans hy1
        exact ⟨(blk_cell hb 0).trans rfl, (blk_cell hb 1).trans rfl, (blk_cell hb 2).trans rfl, (blk_cell hb 3).trans rfl, (blk_cell hb 4).trans rfl, (blk_cell hb 5).trans rfl, (blk_cell hb 6).trans rfl, (blk_cell hb 7).trans rfl, (blk_cell hb 8).trans rfl, (blk_cell hb 9).trans rfl, (blk_cell hb 10).trans rfl, (blk_cell hb 11).trans rfl⟩
      have hxd := Ext.of_drew w1
      have hzd := (Below.block (B := w1.heap.size) hxd w.heap.size (by omega)).trans hz1
      have HTH := Lib.hid (there_blk (cs := [.int .i64 0, .slice none 0 0, .slice none 0 0, .bool false, .bool false, .int .i64 0, .int .u32 0, .slice none 0 0, .bool false, .slice none 0 0, .int .u64 0, .bool false]) hzd 0 12 (by simp))
      have HMS := Lib.hid (mod_setCells (fun z => z = w.heap.size) w1.drew w.heap.size 0 (#[.int .i64 0, .slice none 0 0, .slice none 0 0, .bool false, .bool false, .int .i64 0, .int .u32 0, .slice none 0 0, .bool false, .slice none 0 0, .int .u64 0, .bool false] : Array Value).toList rfl)
      have HBS := Lib.hid (blk_setCells w.heap.size 37 (#[.int .i64 0, .slice none 0 0, .slice none 0 0, .bool false, .bool false, .int .i64 0, .int .u32 0, .slice none 0 0, .bool false, .slice none 0 0, .int .u64 0, .bool false] : Array Value).toList 0 w1.drew [.int .i64 0, .slice none 0 0, .slice none 0 0, .bool false, .bool false, .int .i64 0, .int .u32 0, .slice none 0 0, .bool false, .slice none 0 0, .int .u64 0, .bool false] hzd (by simp))
      have HXA := Lib.hid (Mod.ext (hx1.trans hxd) HMS.out (fun z hz => by omega))
      have hHX := hxd
      have hHeld := hHX
      clear hz1 hs1 hy1 hzd hx1
      refine wp_region_C (fun w' => Ext w1 w') 3 (by kernel_rfl) ?_
      (refine wpAnyC_take [3] (i := 0) (oi := ⟨some 27, _, _, _, _, _⟩) (v := ?_) rfl (by kernel_rfl) (by kernel_rfl) (by kernel_rfl) (by kernel_rfl) (fun _ _ _ h => h) (Or.inl ⟨by rfl, ?_⟩) hHeld ?_; rotate_left; (focus (intro w hSw; ((obtain ⟨qa, qb, qc, qd, qe, qf, qg, qh, qi, qj, qk, ql⟩ := HBX.out _ hSw)); go_simp; first | done | with_reducible rfl)); try simp only [Act.put, List.setIfInBounds_toArray, List.set_cons_zero, List.set_cons_succ])
      (refine wpAnyC_take [3] (i := 1) (oi := ⟨some 4, _, _, _, _, _⟩) (v := ?_) rfl (by kernel_rfl) (by kernel_rfl) (by kernel_rfl) (by kernel_rfl) (fun _ _ _ h => h) (Or.inl ⟨by rfl, ?_⟩) hHeld ?_; rotate_left; (focus (intro w hSw; (skip); go_simp; first | done | with_reducible rfl)); try simp only [Act.put, List.setIfInBounds_toArray, List.set_cons_zero, List.set_cons_succ])
      (refine wpAnyC_take [3] (i := 2) (oi := ⟨some 5, _, _, _, _, _⟩) (v := ?_) rfl (by kernel_rfl) (by kernel_rfl) (by kernel_rfl) (by kernel_rfl) (fun _ _ _ h => h) (Or.inl ⟨by rfl, ?_⟩) hHeld ?_; rotate_left; (focus (intro w hSw; (skip); go_simp; first | done | with_reducible rfl)); try simp only [Act.put, List.setIfInBounds_toArray, List.set_cons_zero, List.set_cons_succ])
      refine wpAnyC_c (oi := ⟨none, _, _, _, _, _⟩) rfl (by kernel_rfl) (fun K hK => ?_)
      rw [if_pos (by rfl)]
      refine wp_store_mid 37 _ _ rfl w.heap.size 0 #[.int .i64 0, .slice none 0 0, .slice none 0 0, .bool false, .bool false, .int .i64 0, .int .u32 0, .slice none 0 0, .bool false, .slice none 0 0, .int .u64 0, .bool false] rfl rfl HTH.out (by kernel_rfl) (by simp [Value.oneCell']) ?_
      refine hK.out _ _ ?_
      clear hK K
      try simp only [Act.put]
      (refine wpAny_take (i := 4) (oi := ⟨some 7, _, _, _, _, _⟩) (v := ?_) rfl (by kernel_rfl) (by kernel_rfl) (by kernel_rfl) (fun _ _ _ h => h) (Or.inl ⟨by rfl, ?_⟩) ?_; rotate_left; (focus (intro w; go_simp; first | done | with_reducible rfl)); try simp only [Act.put, List.setIfInBounds_toArray, List.set_cons_zero, List.set_cons_succ])
      refine wpAny_done (by kernel_rfl) ?_ _
      go_wp2
      have hz4 := HBS.out
      refine bodyPost_ret_by (results_begun (a := 4) (b := 5) (c := 6) (d := 7) rfl _ _ w.heap.size 37 zst _ (by rfl) (by rw [HBS.out]; rfl) (by kernel_rfl)) rfl ?_
      exact ⟨rfl, HXA.out⟩
end Go.Proofs.Ytnjfioikpajhlaa
/- The store's law: ranges, plain; Pairs of a range. -/
namespace Go.Proofs.Ytnjfioikpajhlaa
open Go.RowKit Go.Shelf

namespace S6
theorem range_srt {l : List Pr} (h : Srt l) (f t : Key) : Srt (range l f t) := h.filter _
theorem range_mem {l : List Pr} {f t : Key} {p : Pr} (h : p ∈ range l f t) : p ∈ l ∧ ¬ p.key < f ∧ (t = [] ∨ p.key < t) := by
  obtain ⟨h1, h2⟩ := List.mem_filter.1 h
  unfold inR at h2
  simp only [Bool.and_eq_true, Bool.not_eq_true', decide_eq_false_iff_not, Bool.or_eq_true, decide_eq_true_eq] at h2
  exact ⟨h1, h2.1, h2.2⟩
theorem inR_iff (f t : Key) (p : Pr) : inR f t p = true ↔ ¬ p.key < f ∧ (t = [] ∨ p.key < t) := by
  unfold inR
  simp only [Bool.and_eq_true, Bool.not_eq_true', decide_eq_false_iff_not, Bool.or_eq_true, decide_eq_true_eq]
theorem range_len_le (l : List Pr) (f t : Key) : (range l f t).length ≤ l.length := List.length_filter_le _ _
theorem range_cut {l : List Pr} (h : Srt l) {f c t : Key} (hc : c ≠ []) (hf : ¬ c < f) (ht : t = [] ∨ ¬ t < c) : range l f t = range l f c ++ range l c t := by
  induction l with
  | nil => rfl
  | cons p l ih =>
    obtain ⟨h1, h2⟩ := List.pairwise_cons.1 h
    by_cases hp : p.key < c
    · have e1 : inR f t p = inR f c p := by
        rw [Bool.eq_iff_iff, inR_iff, inR_iff]
        refine ⟨fun a => ⟨a.1, .inr hp⟩, fun a => ⟨a.1, ?_⟩⟩
        rcases ht with rfl | ht
        · exact .inl rfl
        · exact .inr (lt_le_tr hp ht)
      have e2 : inR c t p = false := by
        rw [Bool.eq_false_iff, Ne, inR_iff]
        exact fun a => a.1 hp
      have e := ih h2
      unfold range at e ⊢
      rw [List.filter_cons, List.filter_cons, List.filter_cons, e1, e2]
      cases inR f c p with
      | true => simp only [if_true, List.cons_append]; rw [e]; rfl
      | false => exact e
    · have ha : ∀ a ∈ p :: l, ¬ a.key < c := by
        intro a ha
        rcases List.mem_cons.1 ha with rfl | h3
        · exact hp
        · exact fun h4 => hp (lt_tr (h1 a h3) h4)
      rw [range_above hc ha, List.nil_append]
      unfold range
      refine List.filter_congr (fun a h3 => ?_)
      rw [Bool.eq_iff_iff, inR_iff, inR_iff]
      have h5 := ha a h3
      refine ⟨fun b => ⟨h5, b.2⟩, fun b => ⟨fun h6 => ?_, b.2⟩⟩
      exact h5 (lt_le_tr h6 hf)
theorem range_none {l : List Pr} {f t : Key} (ht : t ≠ []) (h : ¬ f < t) : range l f t = [] := by
  refine List.filter_eq_nil_iff.2 (fun p _ => ?_)
  rw [inR_iff]
  rintro ⟨h1, h2 | h2⟩
  · exact ht h2
  · exact h (le_lt_tr h1 h2)
end S6
section
variable {w1 w2 : World}
theorem pairs6_ext {v : Value} {us : List Value} {ps : List S6.Pr} (hP : PairsO w2 w1.heap.size v us ps) (hx : Ext w1 w2) (hl : ps.length ≤ 900000) (hvl : ∀ p ∈ ps, p.val.length ≤ 1000000) :
    Calls Try.prog 16 #[v] w2 fun e w' => ∃ v', e = .returned v' ∧ w'.ownsRow w1.heap.size 54 3 v' ps.length (prcs ps (svals ps)) ∧ Ext w1 w' := by
  refine (pairs6_any w2 w1.heap.size v us ps hP hl hvl).mono ?_
  rintro e w3 ⟨v3, rfl, hown3, hm3⟩
  exact ⟨v3, rfl, ownsRow_base5 hown3 hx.size, Mod.ext hx hm3 (fun z hz => (hP.vf_lt _ z hz).1)⟩
/-- A row that may be nil, written out. -/
theorem own_any {w : World} {base : Nat} {e : TypeId} {size : Nat} {v : Value} {n : Nat} {xs : List Value} (h : w.ownsRow base e size v n xs) : ∃ a c, v = .slice a n c := by
  rcases h.2 with ⟨h9, h10⟩ | ⟨g, cp, cur, h9, _⟩
  · exact ⟨_, _, by rw [h9, h10]⟩
  · exact ⟨_, _, h9⟩
end
end Go.Proofs.Ytnjfioikpajhlaa
/- The store's law: the document's writes in memory; boxes of the document's store. -/
namespace Go.Proofs.Ytnjfioikpajhlaa
open Go.RowKit Go.Shelf

theorem wvals_get (ws : List S6.Wr) (i : Nat) (h : i < ws.length) (k : i < (wvals ws).length) : (wvals ws)[i] = strV ws[i].val := by simp [wvals]
theorem wvals_one (ws : List S6.Wr) : ∀ u ∈ wvals ws, u.oneCell' = true := by
  intro u hu
  obtain ⟨p, _, rfl⟩ := List.mem_map.1 hu
  rfl
/-- The document's writes in memory. -/
def RWs (w : World) (v : Value) (ws : List S6.Wr) : Prop := ReadsN 4 w v ws.length (wrcs ws (wvals ws))
theorem RWs.ext {w w' : World} {v : Value} {ws : List S6.Wr} (h : RWs w v ws) (he : Ext w w') : RWs w' v ws := ReadsN.ext h he
theorem RWs.of_own {w : World} {base : Nat} {e : TypeId} {v : Value} {ws : List S6.Wr} (h : w.ownsRow base e 4 v ws.length (wrcs ws (wvals ws))) : RWs w v ws := ReadsN.of_own h (wrcs_one _ _ (wvals_one ws))
theorem RWs.shape {w : World} {v : Value} {ws : List S6.Wr} (h : RWs w v ws) : ws.length ≤ 9223372036854775807 ∧ ∃ a cap, v = .slice a ws.length cap ∧ ∀ i (h : i < ws.length), ∃ b off, a = some ⟨b, off, none⟩ ∧
    w.cell? ⟨b, off + i * 4, none⟩ = some (strV ws[i].key) ∧ w.cell? ⟨b, off + i * 4 + 1, none⟩ = some (strV ws[i].val) ∧ w.cell? ⟨b, off + i * 4 + 2, none⟩ = some (.bool ws[i].drop) ∧ w.cell? ⟨b, off + i * 4 + 3, none⟩ = some (.int .u64 (ws[i].ver : Int)) := by
  obtain ⟨a, cap, hv, h0, h1, h2, hn, h3, h4⟩ := h
  unfold maxLen at h2
  refine ⟨by omega, a, cap, hv, fun i hi => ?_⟩
  rcases h4 with h4 | ⟨b, off, rfl, hc⟩
  · omega
  · have g : ∀ j, j < 4 → (wrcs ws (wvals ws))[i * 4 + j]? = (wrc ws[i] (strV ws[i].val))[j]? := fun j hj => by rw [wrcs_get ws (wvals ws) i hi (wvals_len ws) j hj, wvals_get ws i hi]
    exact ⟨b, off, rfl, hc _ _ (g 0 (by omega)), by rw [Nat.add_assoc]; exact hc _ _ (g 1 (by omega)), by rw [Nat.add_assoc]; exact hc _ _ (g 2 (by omega)), by rw [Nat.add_assoc]; exact hc _ _ (g 3 (by omega))⟩
/-- A box of a store that the law knows. -/
def BoxK (w : World) (b : Nat) (v : Value) (num : Nat) : Prop :=
  w.cell? ⟨b, 0, none⟩ = some (.int .i64 0) ∧ w.cell? ⟨b, 1, none⟩ = some (.slice none 0 0) ∧ w.cell? ⟨b, 2, none⟩ = some (.slice none 0 0) ∧ w.cell? ⟨b, 3, none⟩ = some (.bool false) ∧ w.cell? ⟨b, 4, none⟩ = some (.bool false) ∧ w.cell? ⟨b, 5, none⟩ = some (.int .i64 0) ∧ w.cell? ⟨b, 6, none⟩ = some (.int .u32 0) ∧ w.cell? ⟨b, 7, none⟩ = some (.slice none 0 0) ∧ w.cell? ⟨b, 8, none⟩ = some (.bool false) ∧ w.cell? ⟨b, 9, none⟩ = some v ∧ w.cell? ⟨b, 10, none⟩ = some (.int .u64 (num : Int)) ∧ w.cell? ⟨b, 11, none⟩ = some (.bool false)
theorem BoxK.of_blk {w : World} {b : Nat} {v : Value} {num : Nat} {e : TypeId} {fr : Nat × Nat} (h : w.heap[b]? = some (.cells [.int .i64 0, .slice none 0 0, .slice none 0 0, .bool false, .bool false, .int .i64 0, .int .u32 0, .slice none 0 0, .bool false, v, .int .u64 (num : Int), .bool false].toArray e fr)) : BoxK w b v num :=
  ⟨(blk_cell h 0).trans rfl, (blk_cell h 1).trans rfl, (blk_cell h 2).trans rfl, (blk_cell h 3).trans rfl, (blk_cell h 4).trans rfl, (blk_cell h 5).trans rfl, (blk_cell h 6).trans rfl, (blk_cell h 7).trans rfl, (blk_cell h 8).trans rfl, (blk_cell h 9).trans rfl, (blk_cell h 10).trans rfl, (blk_cell h 11).trans rfl⟩
theorem BoxK.ext {w w' : World} {b : Nat} {v : Value} {num : Nat} (h : BoxK w b v num) (he : Ext w w') : BoxK w' b v num := by
  obtain ⟨a0, a1, a2, a3, a4, a5, a6, a7, a8, a9, a10, a11⟩ := h
  exact ⟨he.cell a0, he.cell a1, he.cell a2, he.cell a3, he.cell a4, he.cell a5, he.cell a6, he.cell a7, he.cell a8, he.cell a9, he.cell a10, he.cell a11⟩
theorem BoxK.keeps {X : Nat → Prop} {w w' : World} {b : Nat} {v : Value} {num : Nat} (h : BoxK w b v num) (he : Keeps X w w') (hX : X b) : BoxK w' b v num := by
  obtain ⟨a0, a1, a2, a3, a4, a5, a6, a7, a8, a9, a10, a11⟩ := h
  exact ⟨Keeps.cell he a0 hX, Keeps.cell he a1 hX, Keeps.cell he a2 hX, Keeps.cell he a3 hX, Keeps.cell he a4 hX, Keeps.cell he a5 hX, Keeps.cell he a6 hX, Keeps.cell he a7 hX, Keeps.cell he a8 hX, Keeps.cell he a9 hX, Keeps.cell he a10 hX, Keeps.cell he a11 hX⟩
theorem got_bytes (r : Option S6.Pr) : gotV r = .tuple #[.string ⟨((r.map (fun p => p.val)).getD []).toArray⟩, .int .u64 (((r.map (fun p => p.ver)).getD 0 : Nat) : Int), .bool r.isSome] := rfl
end Go.Proofs.Ytnjfioikpajhlaa
