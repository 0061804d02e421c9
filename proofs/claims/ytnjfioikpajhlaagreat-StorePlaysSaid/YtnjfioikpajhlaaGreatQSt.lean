import Derived.Test.YtnjfioikpajhlaaGreatRefK6
import Derived.Test.YtnjfioikpajhlaaGreatTells6
import Derived.Test.YtnjfioikpajhlaaGreatTells5
import Derived.Test.YtnjfioikpajhlaaGreatMSt5
set_option maxRecDepth 100000
set_option maxHeartbeats 64000000
/- StorePlays: the state of the law's loop. -/
namespace Go.Proofs.YtnjfioikpajhlaaGreat
open Go.RowKit Go.Shelf
theorem Reads.block_lt6 {w : World} {v : Value} {cs : List Value} (h : Reads w v cs) : cs = [] ∨ ∀ k, v.ownBlock = some k -> k < w.heap.size := by
 obtain ⟨a, cap, rfl, h1, h2, h3, h4, h5⟩ := h
 cases cs with
 | nil => exact .inl rfl
 | cons c cs =>
  right
  rcases h5 with h5 | ⟨b, off, rfl, hc⟩
  ·cases h5
  ·intro k hk
   have h6 := World.block_lt_of_cell? w _ (hc 0 c rfl)
   obtain rfl : b = k := by simpa [Value.ownBlock] using hk
   exact h6
theorem info_bool6 : (Tryz.prog.info? 4).map (fun i => (i.zero, i.size, i.bytes)) = some (some (.bool false), 1, 1) := by kernel_rfl
theorem info_bool6_parts : ∃ i, Tryz.prog.info? 4 = some i /\ i.zero = some (.bool false) /\ i.size = 1 /\ i.bytes = 1 := info_parts info_bool6
theorem ReadsN.pick {sz : Nat} {w : World} {v : Value} {n : Nat} {cs : List Value} (h : ReadsN sz w v n cs) (hn : n ≠ 0) (u : Value) (hu : cs[0]? = some u) : ∃ b o, v.ownBlock = some b /\ w.cell? ⟨b, o, none⟩ = some u := by
 obtain ⟨a, cap, rfl, -, -, -, -, -, h4⟩ := h
 rcases h4 with h4 | ⟨b, off, rfl, hc⟩
 ·exact absurd h4 hn
 ·exact ⟨b, off, rfl, by have := hc 0 u hu; simpa using this⟩
theorem RPs.mod_str {F : Nat -> Prop} {w w' : World} {v : Value} {l : List S6.Pr} (h : RPs w v l) (hm : Mod F w w') (hF : ∀ k, F k -> ∀ o s, w.cell? ⟨k, o, none⟩ ≠ some (.string s)) : RPs w' v l := by
 by_cases hl : l = []
 ·subst hl
  obtain ⟨a, cap, hv, h0, h1, h2, hn, h3, -⟩ := h
  exact ⟨a, cap, hv, h0, h1, h2, hn, h3, .inl rfl⟩
 ·have hn : l.length ≠ 0 := fun e => hl (List.eq_nil_of_length_eq_zero e)
  have h0 : 0 < l.length := Nat.pos_of_ne_zero hn
  obtain ⟨e0, -, -⟩ := prcs_get l (svals l) 0 h0 (svals_len l)
  obtain ⟨b, o, hb, hc⟩ := ReadsN.pick h hn _ (by simpa using e0)
  refine h.mod hm (fun k hk e => ?_)
  rw [hb] at hk
  obtain rfl := Option.some.inj hk
  exact hF _ e o _ hc
def bxS (S : S6.St) (r : Ref4) (sv wv lv pv : Value) : Array Value := #[.int .i64 r.n, sv, wv, .bool r.armed, .bool r.down, .int .i64 r.after, .int .u32 (S.L.gen : Int), lv, .bool S.L.cl, pv, .int .u64 (S.num : Int), .bool S.cl]
theorem bx_str {w : World} {b : Nat} {a0 a3 a4 a5 a6 a8 a10 a11 : Value} {sa wa la pa : Option Addr} {sn sc wn wc ln lc pn pc : Nat} {e : TypeId} {fr : Nat × Nat} (h : w.heap[b]? = some (.cells #[a0, .slice sa sn sc, .slice wa wn wc, a3, a4, a5, a6, .slice la ln lc, a8, .slice pa pn pc, a10, a11] e fr))
 (hs : ∀ a ∈ [a0, a3, a4, a5, a6, a8, a10, a11], ∀ s, a ≠ .string s) : ∀ k, k = b -> ∀ o s, w.cell? ⟨k, o, none⟩ ≠ some (.string s) := by
 rintro k rfl o s hc
 have h2 : w.heap[k]? = some (.cells [a0, .slice sa sn sc, .slice wa wn wc, a3, a4, a5, a6, .slice la ln lc, a8, .slice pa pn pc, a10, a11].toArray e fr) := h
 have h3 := (blk_cell h2 o).symm.trans hc
 simp only [List.mem_cons, List.not_mem_nil, or_false, forall_eq_or_imp, forall_eq] at hs
 obtain ⟨s0, s3, s4, s5, s6, s8, s10, s11⟩ := hs
 rcases o with _ | _ | _ | _ | _ | _ | _ | _ | _ | _ | _ | _ | o
 ·exact s0 s (Option.some.inj h3)
 ·cases h3
 ·cases h3
 ·exact s3 s (Option.some.inj h3)
 ·exact s4 s (Option.some.inj h3)
 ·exact s5 s (Option.some.inj h3)
 ·exact s6 s (Option.some.inj h3)
 ·cases h3
 ·exact s8 s (Option.some.inj h3)
 ·cases h3
 ·exact s10 s (Option.some.inj h3)
 ·exact s11 s (Option.some.inj h3)
 ·cases h3
theorem RefS.store12 {w w' : World} {X : Nat -> Prop} {S : S6.St} {r : Ref4} {sv wv lv pv : Value} (h : RefS w X S r sv wv lv pv) {b : Nat} {A : Array Value} (hb : w.heap[b]? = some (.cells A 41 (0, 0))) (hs : ∀ k, k = b -> ∀ o s, w.cell? ⟨k, o, none⟩ ≠ some (.string s)) (hm : Mod (fun k => k = b) w w') : RefS w' X S r sv wv lv pv :=
 ⟨h.log.store12 hb hm, h.prs.mod_str hm hs, h.pX, fun k hk => Nat.lt_of_lt_of_le (h.pL k hk) hm.size⟩
theorem RefS.slices {w : World} {X : Nat -> Prop} {S : S6.St} {r : Ref4} {sv wv lv pv : Value} (h : RefS w X S r sv wv lv pv) : (∃ a n c, sv = .slice a n c) /\ (∃ a n c, wv = .slice a n c) /\ (∃ a n c, lv = .slice a n c) /\ (∃ a n c, pv = .slice a n c) := by
 obtain ⟨la, lc, hl⟩ := str_shape (Reads.of_own h.log.row (str_one _))
 obtain ⟨-, pa, pc, hp, -, -⟩ := h.prs.shape
 exact ⟨h.log.at_.safe.any, h.log.at_.wait.any, ⟨_, _, _, hl⟩, ⟨_, _, _, hp⟩⟩
theorem Stod.okd {w0 w : World} {X : Nat -> Prop} {p q : Nat} {S : S6.St} (h : Stod w0 w X p q S) : D.Ok S.L.d := h.held.okd
structure QSt (w1 wr : World) (p mb : Nat) (X : Nat -> Prop) (q : Nat) (S : S6.St) (r : Ref4) (sv wv lv pv : Value) (n : Int) (B N : Nat) : Prop where
 st : Stod w1 wr X p q S
 ref : RefS wr X S r sv wv lv pv
 box : wr.heap[mb]? = some (.cells (bxS S r sv wv lv pv) 41 (0, 0))
 xm : X mb
 hm : w1.heap.size <= mb
 inv : S6.PInv S n B
 len : R4.len r <= N
section
variable {w1 wr v : World} {p mb : Nat} {X : Nat -> Prop} {q : Nat} {S : S6.St} {r : Ref4} {sv wv lv pv : Value} {n : Int} {B N : Nat}
theorem QSt.after (h : QSt w1 wr p mb X q S r sv wv lv pv n B N) (hx : Ext wr v) : QSt w1 v p mb X q S r sv wv lv pv n B N :=
 ⟨h.st.after hx, h.ref.ext hx, blk_mod (F := fun _ => False) h.box (Mod.of_ext hx) (fun h => h), h.xm, h.hm, h.inv, h.len⟩
theorem QSt.all (h : QSt w1 wr p mb X q S r sv wv lv pv n B N) (hx : Ext wr v) : QSt w1 v p mb (New X wr v) q S r sv wv lv pv n B N :=
 ⟨h.st.all hx, h.ref.all hx, blk_mod (F := fun _ => False) h.box (Mod.of_ext hx) (fun h => h), .inl h.xm, h.hm, h.inv, h.len⟩
theorem QSt.grow (h : QSt w1 wr p mb X q S r sv wv lv pv n B N) {B' N' : Nat} (hB : B <= B') (hN : N <= N') : QSt w1 wr p mb X q S r sv wv lv pv n B' N' :=
 ⟨h.st, h.ref, h.box, h.xm, h.hm, h.inv.le hB, Nat.le_trans h.len hN⟩
theorem QSt.str (h : QSt w1 wr p mb X q S r sv wv lv pv n B N) : ∀ k, k = mb -> ∀ o s, wr.cell? ⟨k, o, none⟩ ≠ some (.string s) := by
 obtain ⟨⟨_, _, _, rfl⟩, ⟨_, _, _, rfl⟩, ⟨_, _, _, rfl⟩, ⟨_, _, _, rfl⟩⟩ := h.ref.slices
 refine bx_str h.box ?_
 intro a ha s
 simp only [List.mem_cons, List.not_mem_nil, or_false] at ha
 rcases ha with rfl | rfl | rfl | rfl | rfl | rfl | rfl | rfl <;> intro e <;> cases e
end
theorem S6.open_bounds {d : D.Dsk} (hok : D.Ok d) : (∀ b ∈ (W5.open_ d).1.recs, b.length <= 100000) /\ (W5.open_ d).1.recs.length <= 5000 := by
 obtain ⟨h1, h2⟩ := list_bounds hok
 have key : (W5.open_ d).1.recs = [] ∨ (W5.open_ d).1.recs = W5.list d := by
  unfold W5.open_
  split
  ·exact .inl rfl
  ·split
   ·exact .inl rfl
   ·split
    ·exact .inl rfl
    ·unfold W5.opened W5.renew
     repeat' split
     all_goals first | exact .inl rfl | (unfold W5.renewI; split <;> first | exact .inl rfl | exact .inr rfl)
 rcases key with e | e <;> rw [e]
 ·exact ⟨fun b hb => absurd hb List.not_mem_nil, Nat.zero_le _⟩
 ·exact ⟨fun b hb => Nat.le_trans (h2 b hb) (by decide), by omega⟩
theorem WrsO.vf_row {w : World} {base : Nat} {v : Value} {us : List Value} {ws : List S6.Wr} (h : WrsO w base v us ws) (i : Nat) : ∀ k, v.ownBlock = some k -> ¬ VF us i k := fun _k hk ⟨_, _u, _, h2, h3⟩ => h.apart (List.mem_of_getElem? h2) h3 hk
theorem WrsO.vf_val {w : World} {base : Nat} {v : Value} {us : List Value} {ws : List S6.Wr} (h : WrsO w base v us ws) {i : Nat} {u : Value} (hu : us[i]? = some u) : ∀ k, u.ownBlock = some k -> ¬ VF us i k := fun k hk ⟨j, a, h1, h2, h3⟩ => h.two j i a u h1 h2 hu k h3 hk
theorem WrsO.vf_lt {w : World} {base : Nat} {v : Value} {us : List Value} {ws : List S6.Wr} (h : WrsO w base v us ws) (i : Nat) : ∀ k, VF us i k -> base <= k /\ k < w.heap.size := fun k ⟨j, a, _, h2, h3⟩ => by
 obtain ⟨l, ho⟩ := h.mem (List.mem_of_getElem? h2)
 exact ho.lt k h3
theorem WrsO.ones {w : World} {base : Nat} {v : Value} {us : List Value} {ws : List S6.Wr} (h : WrsO w base v us ws) : ∀ u ∈ us, u.oneCell' = true := fun u hu => by
 obtain ⟨l, ho⟩ := h.mem hu
 obtain ⟨a, cap, rfl⟩ := (Bs.of_own ho).shape
 rfl
end Go.Proofs.YtnjfioikpajhlaaGreat
