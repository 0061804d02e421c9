/- MSt1: StA StB StC StD. -/
import Derived.Test.YtnjfioikpajhlaaGreatMDisk
import Derived.Test.YtnjfioikpajhlaaGreatMWalB
import Derived.Test.YtnjfioikpajhlaaGreatMRec
import Derived.Test.YtnjfioikpajhlaaGreatMPlain
import Derived.Shelf.SlSorted.Search
import Derived.Test.YtnjfioikpajhlaaGreatMBase
import Derived.Test.YtnjfioikpajhlaaGreatMBase
import Derived.Test.YtnjfioikpajhlaaGreatMBase
import Derived.Laws.AppendOwnNone
set_option maxRecDepth 100000
set_option maxHeartbeats 64000000
namespace Go.Proofs.YtnjfioikpajhlaaGreat
open Go.RowKit Go.Shelf
def ReadsN (sz : Nat) (w : World) (v : Value) (n : Nat) (cs : List Value) : Prop :=
 ∃ a cap, v = .slice a n cap /\ cs.length = n * sz /\ n <= cap /\ cap <= maxLen /\ (a = none -> cap = 0) /\ (∀ u ∈ cs, u.oneCell' = true) /\
  (n = 0 ∨ ∃ b off, a = some ⟨b, off, none⟩ /\ ∀ j u, cs[j]? = some u -> w.cell? ⟨b, off + j, none⟩ = some u)
theorem ReadsN.ext {sz : Nat} {w w' : World} {v : Value} {n : Nat} {cs : List Value} (h : ReadsN sz w v n cs) (he : Ext w w') : ReadsN sz w' v n cs := by
 obtain ⟨a, cap, hv, h0, h1, h2, hn, h3, h4⟩ := h
 refine ⟨a, cap, hv, h0, h1, h2, hn, h3, ?_⟩
 rcases h4 with h4 | ⟨b, off, hb, hc⟩
 ·exact .inl h4
 ·exact .inr ⟨b, off, hb, fun j u hj => he.cell (hc j u hj)⟩
theorem ReadsN.keeps {sz : Nat} {X : Nat -> Prop} {w w' : World} {v : Value} {n : Nat} {cs : List Value} (h : ReadsN sz w v n cs) (he : Keeps X w w') (hv : ∀ k, v.ownBlock = some k -> X k) : ReadsN sz w' v n cs := by
 obtain ⟨a, cap, rfl, h0, h1, h2, hn, h3, h4⟩ := h
 refine ⟨a, cap, rfl, h0, h1, h2, hn, h3, ?_⟩
 rcases h4 with h4 | ⟨b, off, rfl, hc⟩
 ·exact .inl h4
 ·exact .inr ⟨b, off, rfl, fun j u hj => he.cell (hc j u hj) (hv b rfl)⟩
theorem ReadsN.of_own {sz : Nat} {w : World} {base : Nat} {e : TypeId} {v : Value} {n : Nat} {xs : List Value} (h : w.ownsRow base e sz v n xs) (h1 : ∀ u ∈ xs, u.oneCell' = true) : ReadsN sz w v n xs := by
 obtain ⟨hl, h2⟩ := h
 rcases h2 with ⟨rfl, h0⟩ | ⟨g, cap, cur, rfl, hg, hh, hnc, hcm, hcs, ht⟩
 ·obtain rfl : xs = [] := List.eq_nil_of_length_eq_zero (by rw [hl, h0, Nat.zero_mul])
  subst h0
  exact ⟨none, 0, rfl, by simp, Nat.le_refl _, by unfold maxLen; omega, fun _ => rfl, by simp, .inl rfl⟩
 ·refine ⟨_, cap, rfl, hl, hnc, hcm, by simp, h1, .inr ⟨g, 0, rfl, fun j u hj => ?_⟩⟩
  have hj' : j < xs.length := (List.getElem?_eq_some_iff.1 hj).1
  rw [cell_of_row w g _ cur e (0, 0) hh, Nat.zero_add]
  rw [<- ht, List.getElem?_take, if_pos (by omega)] at hj
  simpa using hj
def prc (p : S6.Pr) (u : Value) : List Value := [strV p.key, u, .int .u64 (p.ver : Int)]
def prcs : List S6.Pr -> List Value -> List Value
 | p :: ps, u :: us => prc p u ++ prcs ps us
 | _, _ => []
theorem prcs_len : ∀ (ps : List S6.Pr) (us : List Value), us.length = ps.length -> (prcs ps us).length = ps.length * 3
 | [], us, _ => by cases us <;> simp [prcs]
 | p :: ps, [], h => by simp at h
 | p :: ps, u :: us, h => by
  have := prcs_len ps us (by simpa using h)
  simp [prcs, prc, this]; omega
theorem prcs_get : ∀ (ps : List S6.Pr) (us : List Value) (i : Nat) (hi : i < ps.length) (hu : us.length = ps.length), (prcs ps us)[i * 3]? = some (strV ps[i].key) /\ (prcs ps us)[i * 3 + 1]? = some (us[i]'(by omega)) /\ (prcs ps us)[i * 3 + 2]? = some (.int .u64 (ps[i].ver : Int))
 | [], us, i, hi, _ => absurd hi (Nat.not_lt_zero _)
 | p :: ps, [], i, hi, h => by simp at h
 | p :: ps, u :: us, 0, _, _ => ⟨rfl, rfl, rfl⟩
 | p :: ps, u :: us, i + 1, hi, hu => by
  obtain ⟨h1, h2, h3⟩ := prcs_get ps us i (by simpa using hi) (by simpa using hu)
  have e : ∀ k, (prcs (p :: ps) (u :: us))[(i + 1) * 3 + k]? = (prcs ps us)[i * 3 + k]? := fun k => by
   show (prc p u ++ prcs ps us)[(i + 1) * 3 + k]? = _
   rw [List.getElem?_append_right (by simp [prc]; omega)]
   congr 1
   simp [prc]; omega
  refine ⟨?_, ?_, ?_⟩
  ·exact (e 0).trans h1
  ·rw [e 1, h2]; rfl
  ·rw [e 2, h3]; rfl
theorem prcs_append : ∀ (ps qs : List S6.Pr) (us vs : List Value), us.length = ps.length -> prcs (ps ++ qs) (us ++ vs) = prcs ps us ++ prcs qs vs
 | [], qs, us, vs, h => by obtain rfl : us = [] := List.eq_nil_of_length_eq_zero (by simpa using h); rfl
 | p :: ps, qs, [], vs, h => by simp at h
 | p :: ps, qs, u :: us, vs, h => by
  show prc p u ++ prcs (ps ++ qs) (us ++ vs) = _
  rw [prcs_append ps qs us vs (by simpa using h)]
  simp [prcs]
theorem prcs_one : ∀ (ps : List S6.Pr) (us : List Value), (∀ u ∈ us, u.oneCell' = true) -> ∀ v ∈ prcs ps us, v.oneCell' = true
 | [], us, _, v, hv => by cases us <;> simp [prcs] at hv
 | p :: ps, [], _, v, hv => by simp [prcs] at hv
 | p :: ps, u :: us, h, v, hv => by
  rcases List.mem_append.1 hv with hv | hv
  ·simp [prc] at hv
   rcases hv with rfl | rfl | rfl
   ·rfl
   ·exact h _ List.mem_cons_self
   ·rfl
  ·exact prcs_one ps us (fun u hu => h u (List.mem_cons_of_mem _ hu)) v hv
def Vals (w : World) (X : Nat -> Prop) (ps : List S6.Pr) (us : List Value) : Prop :=
 us.length = ps.length /\ ∀ i (h : i < ps.length) (k : i < us.length), Bs w us[i] ps[i].val /\ ∀ b, us[i].ownBlock = some b -> X b
def PageIn (w : World) (X : Nat -> Prop) (v : Value) (ps : List S6.Pr) : Prop :=
 ∃ us, Vals w X ps us /\ ReadsN 3 w v ps.length (prcs ps us) /\ ∀ k, v.ownBlock = some k -> X k
def IdxIn (w : World) (X : Nat -> Prop) (v : Value) (x : S6.Idx) : Prop :=
 ∃ vs, Reads w v vs /\ vs.length = x.length /\ (∀ k, v.ownBlock = some k -> X k) /\ ∀ i (h : i < x.length) (k : i < vs.length), PageIn w X vs[i] x[i]
theorem Vals.ext {w w' : World} {X : Nat -> Prop} {ps : List S6.Pr} {us : List Value} (h : Vals w X ps us) (he : Ext w w') : Vals w' X ps us := ⟨h.1, fun i a b => ⟨(h.2 i a b).1.ext he, (h.2 i a b).2⟩⟩
theorem Vals.keeps {w w' : World} {X : Nat -> Prop} {ps : List S6.Pr} {us : List Value} (h : Vals w X ps us) (he : Keeps X w w') : Vals w' X ps us := ⟨h.1, fun i a b => ⟨he.bs (h.2 i a b).1 (h.2 i a b).2, (h.2 i a b).2⟩⟩
theorem Vals.mono {w : World} {X Y : Nat -> Prop} {ps : List S6.Pr} {us : List Value} (h : Vals w X ps us) (hXY : ∀ k, X k -> Y k) : Vals w Y ps us := ⟨h.1, fun i a b => ⟨(h.2 i a b).1, fun k hk => hXY k ((h.2 i a b).2 k hk)⟩⟩
theorem Bs.oneCell {w : World} {v : Value} {l : List UInt8} (h : Bs w v l) : v.oneCell' = true := by obtain ⟨a, cap, rfl⟩ := h.shape; rfl
theorem Vals.one {w : World} {X : Nat -> Prop} {ps : List S6.Pr} {us : List Value} (h : Vals w X ps us) : ∀ u ∈ us, u.oneCell' = true := by
 intro u hu
 obtain ⟨i, hi, rfl⟩ := List.getElem_of_mem hu
 exact (h.2 i (by rw [<- h.1]; exact hi) hi).1.oneCell
theorem Vals.app {w : World} {X : Nat -> Prop} {ps qs : List S6.Pr} {us vs : List Value} (h : Vals w X ps us) (k : Vals w X qs vs) : Vals w X (ps ++ qs) (us ++ vs) := by
 refine ⟨by rw [List.length_append, List.length_append, h.1, k.1], fun i a b => ?_⟩
 rcases Nat.lt_or_ge i ps.length with hi | hi
 ·rw [List.getElem_append_left (by rw [h.1]; exact hi), List.getElem_append_left hi]
  exact h.2 i hi (by rw [h.1]; exact hi)
 ·rw [List.getElem_append_right (by rw [h.1]; exact hi), List.getElem_append_right hi]
  have h1 := h.1
  simp only [h1]
  rw [List.length_append] at a
  exact k.2 (i - ps.length) (by omega) (by rw [k.1]; omega)
theorem Vals.take {w : World} {X : Nat -> Prop} {ps : List S6.Pr} {us : List Value} (h : Vals w X ps us) (n : Nat) : Vals w X (ps.take n) (us.take n) :=
 ⟨by rw [List.length_take, List.length_take, h.1], fun i a b => by rw [List.getElem_take, List.getElem_take]; rw [List.length_take] at a b; exact h.2 i (by omega) (by omega)⟩
theorem Vals.drop {w : World} {X : Nat -> Prop} {ps : List S6.Pr} {us : List Value} (h : Vals w X ps us) (n : Nat) : Vals w X (ps.drop n) (us.drop n) :=
 ⟨by rw [List.length_drop, List.length_drop, h.1], fun i a b => by rw [List.getElem_drop, List.getElem_drop]; rw [List.length_drop] at a b; exact h.2 (n + i) (by omega) (by omega)⟩
theorem PageIn.ext {w w' : World} {X : Nat -> Prop} {v : Value} {ps : List S6.Pr} (h : PageIn w X v ps) (he : Ext w w') : PageIn w' X v ps := let ⟨us, h1, h2, h3⟩ := h; ⟨us, h1.ext he, h2.ext he, h3⟩
theorem PageIn.keeps {w w' : World} {X : Nat -> Prop} {v : Value} {ps : List S6.Pr} (h : PageIn w X v ps) (he : Keeps X w w') : PageIn w' X v ps := let ⟨us, h1, h2, h3⟩ := h; ⟨us, h1.keeps he, h2.keeps he h3, h3⟩
theorem PageIn.mono {w : World} {X Y : Nat -> Prop} {v : Value} {ps : List S6.Pr} (h : PageIn w X v ps) (hXY : ∀ k, X k -> Y k) : PageIn w Y v ps := let ⟨us, h1, h2, h3⟩ := h; ⟨us, h1.mono hXY, h2, fun k hk => hXY k (h3 k hk)⟩
theorem IdxIn.ext {w w' : World} {X : Nat -> Prop} {v : Value} {x : S6.Idx} (h : IdxIn w X v x) (he : Ext w w') : IdxIn w' X v x := let ⟨vs, h1, h2, h3, h4⟩ := h; ⟨vs, h1.ext he, h2, h3, fun i a b => (h4 i a b).ext he⟩
theorem IdxIn.keeps {w w' : World} {X : Nat -> Prop} {v : Value} {x : S6.Idx} (h : IdxIn w X v x) (he : Keeps X w w') : IdxIn w' X v x := let ⟨vs, h1, h2, h3, h4⟩ := h; ⟨vs, he.reads h1 h3, h2, h3, fun i a b => (h4 i a b).keeps he⟩
theorem IdxIn.mono {w : World} {X Y : Nat -> Prop} {v : Value} {x : S6.Idx} (h : IdxIn w X v x) (hXY : ∀ k, X k -> Y k) : IdxIn w Y v x := let ⟨vs, h1, h2, h3, h4⟩ := h; ⟨vs, h1, h2, fun k hk => hXY k (h3 k hk), fun i a b => (h4 i a b).mono hXY⟩
theorem IdxIn.nil (w : World) (X : Nat -> Prop) : IdxIn w X (.slice none 0 0) [] := ⟨[], Reads.nil w, rfl, (fun k hk => by simp [Value.ownBlock] at hk), fun i h => absurd h (Nat.not_lt_zero _)⟩
theorem IdxIn.shape {w : World} {X : Nat -> Prop} {v : Value} {x : S6.Idx} (h : IdxIn w X v x) : x.length <= 9223372036854775807 /\ ∃ a cap, v = .slice a x.length cap /\ x.length <= cap /\ ∀ i (h : i < x.length), ∃ b off u, a = some ⟨b, off, none⟩ /\ X b /\ w.cell? ⟨b, off + i, none⟩ = some u /\ PageIn w X u x[i] := by
 obtain ⟨vs, ⟨a, cap, hv, h1, h2, hn, h3, h4⟩, hl, hvX, hr⟩ := h
 unfold maxLen at h2
 rw [hl] at hv h1
 refine ⟨by omega, a, cap, hv, h1, fun i hi => ?_⟩
 rcases h4 with h4 | ⟨b, off, rfl, hc⟩
 ·subst h4; simp at hl; omega
 ·exact ⟨b, off, vs[i]'(by omega), rfl, hvX b (by rw [hv]; rfl), hc i _ (List.getElem?_eq_getElem _), hr i hi (by omega)⟩
theorem PageIn.shape {w : World} {X : Nat -> Prop} {v : Value} {ps : List S6.Pr} (h : PageIn w X v ps) : ps.length <= 9223372036854775807 /\ ∃ a cap, v = .slice a ps.length cap /\ ps.length <= cap /\ ∀ i (h : i < ps.length), ∃ b off u, a = some ⟨b, off, none⟩ /\ X b /\
 w.cell? ⟨b, off + i * 3, none⟩ = some (strV ps[i].key) /\ w.cell? ⟨b, off + i * 3 + 1, none⟩ = some u /\ w.cell? ⟨b, off + i * 3 + 2, none⟩ = some (.int .u64 (ps[i].ver : Int)) /\ Bs w u ps[i].val /\ ∀ k, u.ownBlock = some k -> X k := by
 obtain ⟨us, hv0, ⟨a, cap, hv, h0, h1, h2, hn, h3, h4⟩, hX⟩ := h
 unfold maxLen at h2
 refine ⟨by omega, a, cap, hv, h1, fun i hi => ?_⟩
 rcases h4 with h4 | ⟨b, off, rfl, hc⟩
 ·omega
 ·obtain ⟨g1, g2, g3⟩ := prcs_get ps us i hi hv0.1
  have hi' : i < us.length := by rw [hv0.1]; exact hi
  exact ⟨b, off, us[i], rfl, hX b (by rw [hv]; rfl), hc _ _ g1, by rw [Nat.add_assoc]; exact hc _ _ g2, by rw [Nat.add_assoc]; exact hc _ _ g3, (hv0.2 i hi hi').1, (hv0.2 i hi hi').2⟩
theorem search_any (g : Nat) (cb : Array Value) (n : Nat) (p : Nat -> Bool) (w : World) (eg : ∀ args w, (callFunc g args).run Tryz.prog w = .ok (.enter g args) w) (hsz : n < 4611686018427387904)
 (hf : ∀ (v : World) (i : Nat), Ext w v -> i < n -> Calls Tryz.prog g (#[.int .i64 i] ++ cb) v fun e v' => e = .returned (.bool (p i)) /\ Ext v v')
 (hmono : ∀ a b, a <= b -> b < n -> p a = true -> p b = true) :
 Calls Tryz.prog 83 #[.int .i64 n, .func (.func g) #[] cb] w fun e w' => e = .returned (.int .i64 ((List.range n).countP (fun i => !p i) : Nat)) /\ Ext w w' := by
 have HF := qh hf
 have M := qh hmono
 clear hf hmono
 generalize hcnt : (List.range n).countP (fun i => !p i) = cnt
 have CN : Hid ((List.range n).countP (fun i => !p i) = cnt) := hcnt
 clear hcnt
 go_enter Tryz.func83, Tryz.ntmps83
 go_wp2
 go_loopw [5, 6] (fun s5 s6 wr => ∃ (lo hi : Nat), s5 = .int .i64 lo /\ s6 = .int .i64 hi /\ lo <= hi /\ hi <= n /\ Hid (Ext w wr) /\
  Hid ((∀ t, t < lo -> p t = false) /\ (∀ t, hi <= t -> t < n -> p t = true))) (fun s5 s6 _ => (intOf s6).toNat - (intOf s5).toNat)
 case atStart => exact ⟨0, n, rfl, rfl, Nat.zero_le _, Nat.le_refl _, qh (Ext.refl w), (⟨fun t ht => absurd ht (Nat.not_lt_zero _), fun t h1 h2 => by omega⟩ : (∀ t, t < 0 -> p t = false) /\ (∀ t, n <= t -> t < n -> p t = true))⟩
 case round =>
  obtain ⟨lo, hi, rfl, rfl, hlh, hin, hx, I⟩ := hrel
  by_cases hlt : lo < hi
  ·have hc := HF.out wr ((lo + hi) / 2) hx.out (by omega)
   rw [show (((lo + hi) / 2 : Nat) : Int) = ((lo : Int) + (hi : Int)) / 2 by omega] at hc
   cases hp : p ((lo + hi) / 2) <;> rw [hp] at hc
   ·have HP := qh hp
    clear hp
    go_wp2_with (go_at_fn g; refine hc.mono ?_; rintro e w' ⟨rfl, hx2⟩; have HX2 := qh (hx.out.trans hx2); clear hx2)
    go_roundw
    case measure => (simp [intOf]; try omega)
    case rel =>
     have I2 : Hid ((∀ t, t < (lo + hi) / 2 + 1 -> p t = false) /\ (∀ t, hi <= t -> t < n -> p t = true)) := ⟨fun t ht => (by
      cases h : p t with
      | false => rfl
      | true => have := M.out t ((lo + hi) / 2) (by omega) (by omega) h; rw [HP.out] at this; cases this), I.out.2⟩
     exact ⟨(lo + hi) / 2 + 1, hi, by rw [show ((lo : Int) + (hi : Int)) / 2 + 1 = (((lo + hi) / 2 + 1 : Nat) : Int) by omega], rfl, by omega, hin, HX2, I2⟩
   ·have HP := qh hp
    clear hp
    go_wp2_with (go_at_fn g; refine hc.mono ?_; rintro e w' ⟨rfl, hx2⟩; have HX2 := qh (hx.out.trans hx2); clear hx2)
    go_roundw
    case measure => (simp [intOf]; try omega)
    case rel =>
     have I2 : Hid ((∀ t, t < lo -> p t = false) /\ (∀ t, (lo + hi) / 2 <= t -> t < n -> p t = true)) := ⟨I.out.1, fun t ht htn => M.out ((lo + hi) / 2) t ht htn HP.out⟩
     exact ⟨lo, (lo + hi) / 2, rfl, by rw [show ((lo : Int) + (hi : Int)) / 2 = (((lo + hi) / 2 : Nat) : Int) by omega], by omega, by omega, HX2, I2⟩
  ·obtain rfl : hi = lo := by omega
   have ecnt : cnt = hi := by
    rw [<- CN.out]
    refine S6.countP_split _ (List.range n) hi (by simpa using hin) (fun t ht h3 => ?_) (fun t ht h3 => ?_)
    ·rw [List.getElem_range, I.out.1 t h3]; rfl
    ·rw [List.length_range] at ht
     rw [List.getElem_range, I.out.2 t h3 ht]; rfl
   subst ecnt
   go_wp2
   go_ret
   exact ⟨rfl, hx.out⟩
end Go.Proofs.YtnjfioikpajhlaaGreat
namespace Go.Proofs.YtnjfioikpajhlaaGreat
open Go.RowKit Go.Shelf
theorem gtr_key (a b : List UInt8) : (!Op.bytesLess a b && !a == b) = decide (b < a) := by
 rw [bytesLess_eq]
 rcases S6.lt_tri a b with h | rfl | h
 ·simp [h, S6.lt_asy h]
 ·simp [S6.lt_irr a]
 ·have h1 := S6.lt_asy h
  have h2 : ¬ a = b := fun e => by subst e; exact S6.lt_irr a h
  simp [h, h1, h2]
theorem beq_key (a b : List UInt8) : (a == b) = decide (a = b) := by rw [Bool.eq_iff_iff]; simp
theorem geq_key (a b : List UInt8) : (!Op.bytesLess a b) = !decide (a < b) := by rw [bytesLess_eq]
theorem page_fn (w : World) (X : Nat -> Prop) (xv : Value) (x : S6.Idx) (key : List UInt8) (bx bk i : Nat) (hi : i < x.length) (h : IdxIn w X xv x) (hne : ∀ p ∈ x, p ≠ [])
 (cx : w.cell? ⟨bx, 0, none⟩ = some xv) (ck : w.cell? ⟨bk, 0, none⟩ = some (strV key)) :
 Calls Tryz.prog 84 (#[.int .i64 i] ++ #[.pointer (some ⟨bx, 0, none⟩), .pointer (some ⟨bk, 0, none⟩)]) w fun e w' => e = .returned (.bool (!S6.le0 key x[i])) /\ Ext w w' := by
 obtain ⟨hxl, a, cap, rfl, _, hp⟩ := h.shape
 obtain ⟨b, off, u, rfl, _, hu, hpg⟩ := hp i hi
 obtain ⟨hpl, a2, cap2, rfl, _, hq⟩ := hpg.shape
 have hpos : 0 < x[i].length := List.length_pos_iff.2 (hne _ (List.getElem_mem _))
 obtain ⟨b2, off2, u2, rfl, _, hk, g1, g2, g3, g4⟩ := hq 0 hpos
 clear g1 g2 g3 g4
 rw [Nat.zero_mul, Nat.add_zero] at hk
 have hle : S6.le0 key x[i] = !decide (key < (x[i][0]).key) := by
  generalize x[i] = pg at *
  cases pg with
  | nil => exact absurd hpos (Nat.lt_irrefl _)
  | cons p r => rfl
 rw [hle]
 clear hp hpg hq hle h hne
 generalize (x[i][0]).key = k0 at *
 generalize x[i].length = m at *
 generalize x.length = n at *
 unfold strV at ck hk
 have hiz : (i : Int) < (n : Int) := by omega
 have hmz : (0 : Int) < (m : Int) := by omega
 have hg := gtr_key k0 key
 go_enter Tryz.func84, Tryz.ntmps84
 go_wp2
 go_region
 all_goals go_wp2
 all_goals go_ret
 all_goals exact ⟨by first | rfl | simp, Ext.of_drew _⟩
theorem find_fn (w : World) (X : Nat -> Prop) (xv : Value) (x : S6.Idx) (key : List UInt8) (bx bp bk p i : Nat) (hp : p < x.length) (hi : i < x[p].length) (h : IdxIn w X xv x)
 (cx : w.cell? ⟨bx, 0, none⟩ = some xv) (cp : w.cell? ⟨bp, 0, none⟩ = some (.int .i64 p)) (ck : w.cell? ⟨bk, 0, none⟩ = some (strV key)) :
 Calls Tryz.prog 85 (#[.int .i64 i] ++ #[.pointer (some ⟨bx, 0, none⟩), .pointer (some ⟨bp, 0, none⟩), .pointer (some ⟨bk, 0, none⟩)]) w fun e w' => e = .returned (.bool (!decide ((x[p][i]).key < key))) /\ Ext w w' := by
 obtain ⟨hxl, a, cap, rfl, _, hq0⟩ := h.shape
 obtain ⟨b, off, u, rfl, _, hu, hpg⟩ := hq0 p hp
 obtain ⟨hpl, a2, cap2, rfl, _, hq⟩ := hpg.shape
 obtain ⟨b2, off2, u2, rfl, _, hk, g1, g2, g3, g4⟩ := hq i hi
 have hpz : p < x.length := hp
 have hiz : i < x[p].length := hi
 clear g1 g2 g3 g4 hpg hq hq0 h
 generalize (x[p][i]).key = k0 at *
 clear hi
 generalize x[p].length = m at *
 clear hp
 generalize x.length = n at *
 unfold strV at ck hk
 have hpz : (p : Int) < (n : Int) := by omega
 have hiz : (i : Int) < (m : Int) := by omega
 have hg := geq_key k0 key
 go_enter Tryz.func85, Tryz.ntmps85
 go_wp2
 go_region
 all_goals go_wp2
 all_goals go_ret
 all_goals exact ⟨by first | rfl | simp, Ext.of_drew _⟩
theorem range_countP {α : Type} (l : List α) (d : α) (f : α -> Bool) : (List.range l.length).countP (fun i => f (l.getD i d)) = l.countP f := by
 have h : l = (List.range l.length).map (fun i => l.getD i d) := by
  apply List.ext_getElem
  ·simp
  ·intro i h1 h2
   simp [List.getD_eq_getElem?_getD, List.getElem?_eq_getElem h1]
 conv => rhs; rw [h, List.countP_map]
 rfl
theorem enters_page : ∀ args w, (callFunc 84 args).run Tryz.prog w = .ok (.enter 84 args) w := enters_of Tryz.func84 (by kernel_rfl) rfl
theorem enters_find : ∀ args w, (callFunc 85 args).run Tryz.prog w = .ok (.enter 85 args) w := enters_of Tryz.func85 (by kernel_rfl) rfl
theorem page_any (w : World) (X : Nat -> Prop) (xv : Value) (x : S6.Idx) (key : List UInt8) (h : IdxIn w X xv x) (ho : S6.IOk x) (hl : x.length <= 1000000) :
 Calls Tryz.prog 55 #[xv, strV key] w fun e w' => e = .returned (.int .i64 (S6.pageNo x key : Nat)) /\ Ext w w' := by
 have hone : xv.oneCell' = true := by obtain ⟨_, a, cap, rfl, _⟩ := h.shape; rfl
 obtain ⟨W0, hW0⟩ : ∃ W0, W0 = (w.alloc (.cells #[xv] 85)).alloc (.cells #[strV key] 9) := ⟨_, rfl⟩
 have hx0 : Ext w W0 := by rw [hW0]; exact (Ext.of_alloc _ _).trans (Ext.of_alloc _ _)
 have cx : W0.cell? ⟨w.heap.size, 0, none⟩ = some xv := by rw [hW0]; exact (Ext.of_alloc _ _).cell (by rw [World.cell?_alloc_at _ _ _ _ rfl]; rfl)
 have ck : W0.cell? ⟨w.heap.size + 1, 0, none⟩ = some (strV key) := by
  rw [hW0]
  have := cell_new_sl (w.alloc (.cells #[xv] 85)) (strV key) 9
  rwa [World.size_alloc] at this
 have hS := search_any 84 #[.pointer (some ⟨w.heap.size, 0, none⟩), .pointer (some ⟨w.heap.size + 1, 0, none⟩)] x.length (fun i => !S6.le0 key (x.getD i [])) W0 enters_page (by omega)
  (fun v i hv hi => by
   have := page_fn v X xv x key w.heap.size (w.heap.size + 1) i hi (h.ext (hx0.trans hv)) ho.ne (hv.cell cx) (hv.cell ck)
   rw [show x.getD i [] = x[i] from by rw [List.getD_eq_getElem?_getD, List.getElem?_eq_getElem hi]; rfl]
   exact this)
  (fun a b hab hb e => by
   rw [show x.getD a [] = x[a]'(by omega) from by rw [List.getD_eq_getElem?_getD, List.getElem?_eq_getElem (show a < x.length by omega)]; rfl] at e
   rw [show x.getD b [] = x[b] from by rw [List.getD_eq_getElem?_getD, List.getElem?_eq_getElem hb]; rfl]
   cases e1 : S6.le0 key x[b] with
   | false => rfl
   | true => rw [S6.le0_mono ho key a b hb hab e1] at e; cases e)
 simp only [Bool.not_not] at hS
 rw [range_countP x [] (S6.le0 key)] at hS
 have hpn : S6.pageNo x key = x.countP (S6.le0 key) - 1 := rfl
 rw [hpn]
 have hcl : x.countP (S6.le0 key) <= 1000000 := Nat.le_trans List.countP_le_length hl
 clear hpn
 generalize x.countP (S6.le0 key) = r at *
 obtain ⟨_, a, cap, rfl, hca, hh⟩ := h.shape
 have HS := qh hS
 have HX := qh hx0
 clear hS hx0 h ho hh
 generalize x.length = n at *
 unfold strV at *
 go_enter Tryz.func55, Tryz.ntmps55
 go_wp2_with (go_at_call 83; rw [<- hW0]; refine HS.out.mono ?_; rintro e w' ⟨rfl, hx⟩; have HX2 := qh (HX.out.trans hx); clear hx)
 all_goals go_ret
 refine ⟨?_, HX2.out⟩
 have hm : max ((r : Int) - 1) 0 = ((r - 1 : Nat) : Int) := by omega
 show Ending.returned (.int .i64 (max ((r : Int) - 1) 0)) = _
 rw [hm]
def findV (f : Nat × Nat × Bool) : Value := .tuple #[.int .i64 (f.1 : Nat), .int .i64 (f.2.1 : Nat), .bool f.2.2]
theorem find_any (w : World) (X : Nat -> Prop) (xv : Value) (x : S6.Idx) (key : List UInt8) (h : IdxIn w X xv x) (ho : S6.IOk x) (hl : x.length <= 1000000) (hl2 : ∀ p ∈ x, p.length <= 1000000) :
 Calls Tryz.prog 57 #[xv, strV key] w fun e w' => e = .returned (findV (S6.find x key)) /\ Ext w w' := by
 by_cases h0 : x = []
 ·subst h0
  obtain ⟨_, a, cap, rfl, hca, hh⟩ := h.shape
  clear hh h
  unfold strV findV S6.find
  go_enter Tryz.func57, Tryz.ntmps57
  go_wp2
  go_ret3
  exact ⟨rfl, (Ext.of_alloc _ _).trans (Ext.of_alloc _ _)⟩
 ·obtain ⟨hp, A, M, B, he, h1, h2, hA, hB, h3, h4, h5, h6, h7⟩ := S6.place ho key h0
  clear h1 h2 hA hB h3 h4 h5 h6 h7
  have hf : S6.find x key = (S6.pageNo x key, S6.atNo x[S6.pageNo x key] key, S6.hasIn x[S6.pageNo x key] key) := by unfold S6.find; rw [if_neg h0, he]
  rw [hf]
  clear hf he A M B
  have hone : xv.oneCell' = true := by obtain ⟨_, a, cap, rfl, _⟩ := h.shape; rfl
  obtain ⟨W0, hW0⟩ : ∃ W0, W0 = (w.alloc (.cells #[xv] 85)).alloc (.cells #[strV key] 9) := ⟨_, rfl⟩
  have hx0 : Ext w W0 := by rw [hW0]; exact (Ext.of_alloc _ _).trans (Ext.of_alloc _ _)
  have cx : W0.cell? ⟨w.heap.size, 0, none⟩ = some xv := by rw [hW0]; exact cell_alloc_sl _ (cell_new_sl w _ _)
  have ck : W0.cell? ⟨w.heap.size + 1, 0, none⟩ = some (strV key) := by
   rw [hW0]
   have := cell_new_sl (w.alloc (.cells #[xv] 85)) (strV key) 9
   rwa [World.size_alloc] at this
  have HP := qh (page_any W0 X xv x key (h.ext hx0) ho hl)
  have hpl : (x[S6.pageNo x key]).length <= 1000000 := hl2 _ (List.getElem_mem _)
  have hHF : Hid (∀ (w3 : World) (bp : Nat), Ext W0 w3 -> w3.cell? ⟨bp, 0, none⟩ = some (.int .i64 (S6.pageNo x key : Nat)) ->
   Calls Tryz.prog 83 #[.int .i64 (x[S6.pageNo x key].length : Nat), .func (.func 85) #[] #[.pointer (some ⟨w.heap.size, 0, none⟩), .pointer (some ⟨bp, 0, none⟩), .pointer (some ⟨w.heap.size + 1, 0, none⟩)]] w3 fun e w' => e = .returned (.int .i64 (S6.atNo x[S6.pageNo x key] key : Nat)) /\ Ext w3 w') := fun w3 bp hx3 hb => by
   have hs := ho.page hp
   have hS := search_any 85 #[.pointer (some ⟨w.heap.size, 0, none⟩), .pointer (some ⟨bp, 0, none⟩), .pointer (some ⟨w.heap.size + 1, 0, none⟩)] x[S6.pageNo x key].length (fun i => !decide ((x[S6.pageNo x key].getD i ⟨[], [], 0⟩).key < key)) w3 enters_find (by omega)
    (fun v i hv hi => by
     have := find_fn v X xv x key w.heap.size bp (w.heap.size + 1) (S6.pageNo x key) i hp hi (h.ext ((hx0.trans hx3).trans hv)) ((hx3.trans hv).cell cx) (hv.cell hb) ((hx3.trans hv).cell ck)
     simp only [List.getD_eq_getElem?_getD, List.getElem?_eq_getElem hi, Option.getD_some]
     exact this)
    (fun a b hab hb e => by
     simp only [List.getD_eq_getElem?_getD, List.getElem?_eq_getElem hb, List.getElem?_eq_getElem (show a < x[S6.pageNo x key].length by omega), Option.getD_some] at e ⊢
     have e' : ¬ (x[S6.pageNo x key][a]).key < key := by simpa using e
     have g : ¬ (x[S6.pageNo x key][b]).key < key := by
      rw [S6.atNo_lt hs key b hb]
      rw [S6.atNo_lt hs key a (by omega)] at e'
      omega
     simpa using g)
   simp only [Bool.not_not] at hS
   rw [range_countP x[S6.pageNo x key] ⟨[], [], 0⟩ (fun a => decide (a.key < key))] at hS
   exact hS
  have hsh := (h.ext hx0).shape
  have hat : S6.atNo x[S6.pageNo x key] key <= (x[S6.pageNo x key]).length := S6.atNo_le _ _
  obtain ⟨_, a, cap, hxv, hca, hcell⟩ := hsh
  obtain ⟨b, off, u, ha, _, hu, hpg⟩ := hcell _ hp
  obtain ⟨_, a2, cap2, hu2, _, hq⟩ := hpg.shape
  have hHas : (S6.hasIn x[S6.pageNo x key] key = false /\ S6.atNo x[S6.pageNo x key] key = (x[S6.pageNo x key]).length) ∨ (∃ (ha : S6.atNo x[S6.pageNo x key] key < (x[S6.pageNo x key]).length) (b2 off2 : Nat) (k0 : List UInt8), a2 = some ⟨b2, off2, none⟩ /\ W0.cell? ⟨b2, off2 + S6.atNo x[S6.pageNo x key] key * 3, none⟩ = some (strV k0) /\ S6.hasIn x[S6.pageNo x key] key = decide (k0 = key)) := by
   rcases Nat.lt_or_ge (S6.atNo x[S6.pageNo x key] key) (x[S6.pageNo x key]).length with hlt | hge
   ·obtain ⟨b2, off2, u2, hb2, _, hk, _⟩ := hq _ hlt
    exact .inr ⟨hlt, b2, off2, _, hb2, hk, by unfold S6.hasIn; rw [List.getElem?_eq_getElem hlt]⟩
   ·exact .inl ⟨by unfold S6.hasIn; rw [List.getElem?_eq_none hge], by omega⟩
  subst hu2
  subst hxv
  subst ha
  have hpz : S6.pageNo x key < x.length := hp
  clear hq hcell hpg h ho hl2
  have HX := qh hx0
  clear hx0
  generalize S6.atNo x[S6.pageNo x key] key = at0 at *
  generalize S6.hasIn x[S6.pageNo x key] key = has at *
  generalize x[S6.pageNo x key].length = m at *
  clear hp
  generalize S6.pageNo x key = p at *
  have hpi : (p : Int) < (x.length : Int) := by omega
  have hx0n : ¬ x.length = 0 := fun e => h0 (List.eq_nil_of_length_eq_zero e)
  clear h0
  generalize x.length = n at *
  have hne : ((n : Int) == 0) = false := by rw [beq_eq_false_iff_ne]; omega
  unfold strV findV at *
  go_enter Tryz.func57, Tryz.ntmps57
  go_wp2_with fail
  rw [<- hW0]
  refine HP.out.mono ?_
  clear HP
  rintro e w2 ⟨rfl, hx2⟩
  have HX2 := qh hx2
  have hcxx := hx2.cell cx
  have hckk := hx2.cell ck
  have huu := hx2.cell hu
  clear hx2
  dsimp only
  go_upto_region 4 with fail
  have hx3 := Ext.of_alloc w2 (.cells #[.int .i64 (p : Int)] 3)
  have cp : (w2.alloc (.cells #[.int .i64 (p : Int)] 3)).cell? ⟨w2.heap.size, 0, none⟩ = some (.int .i64 (p : Int)) := cell_new_sl _ _ _
  have HX3 := qh (HX2.out.trans hx3)
  have d1 := hx3.cell hcxx
  have d2 := hx3.cell hckk
  have d3 := hx3.cell huu
  have hS := hHF.out _ _ HX3.out cp
  clear hcxx hckk huu hHF hx3 cx ck hu
  generalize w2.alloc (.cells #[.int .i64 (p : Int)] 3) = w3 at *
  generalize w2.heap.size = bp at *
  have HSS := qh hS
  clear hS HX2
  go_wp2_with fail
  refine HSS.out.mono ?_
  clear HSS
  rintro e w4 ⟨rfl, hx4⟩
  have e1 := hx4.cell d1
  have e2 := hx4.cell d2
  have e3 := hx4.cell d3
  have e4 := hx4.cell cp
  have HX4 := qh ((HX.out.trans HX3.out).trans hx4)
  have HX34 := qh (HX3.out.trans hx4)
  clear hx4 d1 d2 d3 cp HX3
  dsimp only
  rcases hHas with ⟨rfl, rfl⟩ | ⟨hlt, b2, off2, k0, rfl, hk0, rfl⟩
  ·go_wp2_with fail
   go_region
   all_goals go_wp2
   all_goals go_ret3
   all_goals exact ⟨by first | rfl | (simp; done) | (simp; exact beq_key _ _), HX4.out.trans (Ext.of_drew _)⟩
  ·have e5 := HX34.out.cell hk0
   have hlti : (at0 : Int) < (m : Int) := by omega
   clear hk0
   go_wp2_with fail
   go_region
   all_goals go_wp2
   all_goals go_ret3
   all_goals exact ⟨by first | rfl | (simp; done) | (simp; exact beq_key _ _), HX4.out.trans (Ext.of_drew _)⟩
end Go.Proofs.YtnjfioikpajhlaaGreat
namespace Go.Proofs.YtnjfioikpajhlaaGreat
open Go.RowKit Go.Shelf
structure Elem (t e : TypeId) (size bytes : Nat) : Prop where
 und : Tryz.prog.underlying t = some (.slice e)
 pos : 0 < size
 small : size <= 1000
 info : ∃ i z, Tryz.prog.info? e = some i /\ i.zero = some z /\ i.size = size /\ i.bytes = bytes /\ z.cells.size = size
theorem elem_of {t e : TypeId} {size bytes : Nat} (hu : Tryz.prog.underlying t = some (.slice e)) (hp : 0 < size) (hs : size <= 1000) (h : (Tryz.prog.info? e).bind (fun i => i.zero.map (fun z => (i.size, i.bytes, z.cells.size))) = some (size, bytes, size)) : Elem t e size bytes := by
 refine ⟨hu, hp, hs, ?_⟩
 cases hi : Tryz.prog.info? e with
 | none => rw [hi] at h; cases h
 | some i =>
  rw [hi] at h
  cases hz : i.zero with
  | none => rw [Option.bind_some, hz] at h; cases h
  | some z =>
   rw [Option.bind_some, hz] at h
   obtain ⟨h1, h2⟩ := Prod.mk.inj (Option.some.inj h)
   obtain ⟨h2, h3⟩ := Prod.mk.inj h2
   exact ⟨i, z, rfl, hz, h1, h2, h3⟩
theorem el_pair : Elem 68 129 3 48 := elem_of Tryz.underlying68 (by decide) (by decide) (by kernel_rfl)
theorem el_page : Elem 85 68 1 24 := elem_of Tryz.underlying85 (by decide) (by decide) (by kernel_rfl)
theorem grown_ext {W0 w w' : World} {e : TypeId} {size n : Nat} {v : Value} {xs : List Value} (h0 : Ext W0 w) (ho : w.ownsRow W0.heap.size e size v n xs) (hg : w.grownBy w' v.ownBlock) : Ext W0 w' :=
 Mod.ext h0 (Mod.grown (F := fun k => v.ownBlock = some k) hg (fun _k hk _ => hk)) (fun k hk => (ho.lt k hk).1)
theorem ReadsN.take {sz : Nat} {w : World} {a : Option Addr} {n cap : Nat} {cs : List Value} (h : ReadsN sz w (.slice a n cap) n cs) (k : Nat) (hk : k <= n) : ReadsN sz w (.slice a k cap) k (cs.take (k * sz)) := by
 obtain ⟨a', cap', hv, h0, h1, h2, hn, h3, h4⟩ := h
 obtain ⟨rfl, _, rfl⟩ := Value.slice.inj hv
 have hkn : k * sz <= n * sz := Nat.mul_le_mul_right _ hk
 refine ⟨a, cap, rfl, by rw [List.length_take, h0]; omega, by omega, h2, hn, fun u hu => h3 u (List.mem_of_mem_take hu), ?_⟩
 rcases h4 with h4 | ⟨b, off, rfl, hc⟩
 ·left; omega
 ·refine .inr ⟨b, off, rfl, fun j u hj => hc j u ?_⟩
  rw [List.getElem?_take] at hj
  split at hj
  ·exact hj
  ·cases hj
theorem ReadsN.drop {sz : Nat} {w : World} {b off n cap : Nat} {cs : List Value} (h : ReadsN sz w (.slice (some ⟨b, off, none⟩) n cap) n cs) (k : Nat) (hk : k <= n) : ReadsN sz w (.slice (some ⟨b, off + k * sz, none⟩) (n - k) (cap - k)) (n - k) (cs.drop (k * sz)) := by
 obtain ⟨a', cap', hv, h0, h1, h2, hn, h3, h4⟩ := h
 obtain ⟨rfl, _, rfl⟩ := Value.slice.inj hv
 refine ⟨_, _, rfl, by rw [List.length_drop, h0, Nat.sub_mul], by omega, by omega, (fun e => by cases e), fun u hu => h3 u (List.mem_of_mem_drop hu), ?_⟩
 rcases h4 with h4 | ⟨b', off', hb, hc⟩
 ·left; omega
 ·obtain ⟨rfl, rfl, _⟩ := Addr.mk.inj (Option.some.inj hb)
  refine .inr ⟨b, off + k * sz, rfl, fun j u hj => ?_⟩
  rw [List.getElem?_drop] at hj
  have := hc _ u hj
  rw [<- Nat.add_assoc] at this
  exact this
theorem ReadsN.sliced {sz : Nat} {w : World} {a : Option Addr} {n cap : Nat} {cs : List Value} (h : ReadsN sz w (.slice a n cap) n cs) (k : Nat) (hk : k <= n) : ReadsN sz w (Go.sliced a k n cap sz) (n - k) (cs.drop (k * sz)) := by
 unfold Go.sliced
 obtain ⟨a', cap', hv, h0, h1, h2, hn, h3, h4⟩ := id h
 obtain ⟨rfl, _, rfl⟩ := Value.slice.inj hv
 by_cases hc : cap = k
 ·rw [if_pos hc]
  exact ⟨a, _, rfl, by rw [List.length_drop, h0, Nat.sub_mul], by omega, by omega, (fun e => by have := hn e; omega), fun u hu => h3 u (List.mem_of_mem_drop hu), .inl (by omega)⟩
 ·rw [if_neg hc]
  rcases h4 with h4 | ⟨b, off, rfl, hcc⟩
  ·subst h4
   exact ⟨_, _, rfl, by rw [List.length_drop, h0, Nat.sub_mul], by omega, by omega, (fun e => by
    cases a with
    | none => have := hn rfl; omega
    | some x => simp at e), fun u hu => h3 u (List.mem_of_mem_drop hu), .inl (by omega)⟩
  ·simp only [Option.map_some, Addr.add_lit]
   exact h.drop k hk
section
variable {ops : Array Oper} {rest : List Oper} {o : Oper} {a : Act} {Q : Exit -> Act -> World -> Prop}
theorem wpl_app (W0 : World) {t e : TypeId} {size bytes : Nat} (E : Elem t e size bytes) (w : World) (hW : Ext W0 w) (hgd : o.guard = none) (s x : Operand) (ho : o.op = .call { callee := .builtin .append, args := #[s, x], argTypes := #[t, t] })
 (v : Value) (n : Nat) (xs : List Value) (hs : a.eval s = v) (hown : w.ownsRow W0.heap.size e size v n xs) (y : Value) (m : Nat) (ys : List Value) (hx : a.eval x = y) (hr : ReadsN size w y m ys) (hb : (n + m) * bytes <= 1000000000000)
 (hn : n + m <= 1000000000000) (h : ∀ v' w', w'.ownsRow W0.heap.size e size v' (n + m) (xs ++ ys) -> Ext W0 w' -> wpList Tryz.prog ops Q rest (a.put o.dst v') w') : wpList Tryz.prog ops Q (o :: rest) a w := by
 obtain ⟨i, z, hi, hz, h1, h2, h3⟩ := E.info
 obtain ⟨b, cap, rfl, g1, g2, g3, g4, g5, g6⟩ := hr
 cases b with
 | none =>
  obtain rfl : cap = 0 := g4 rfl
  obtain rfl : m = 0 := by omega
  obtain rfl : ys = [] := List.eq_nil_of_length_eq_zero (by rw [g1, Nat.zero_mul])
  exact wpList_append_own_none hgd s x t ho W0.heap.size e i size E.und hi v n xs hs hown hx (h v w (by simpa using hown) hW)
 | some ad =>
  refine wpList_append_own w hgd s x t ho W0.heap.size e i z size bytes E.und hi hz h1 h2 h3 E.pos v n xs hs hown ad m cap ys hx g1 ?_ g5 (by unfold maxLen; omega) (by omega) hW.size (fun v' w' h4 h5 _ => h v' w' h4 (grown_ext hW hown h5))
  intro j u hj
  rcases g6 with rfl | ⟨b, off, hb, hc⟩
  ·rw [Nat.zero_mul] at g1; rw [List.eq_nil_of_length_eq_zero g1] at hj; cases hj
  ·obtain rfl := Option.some.inj hb
   rw [Addr.add_lit]; exact hc j u hj
theorem wpl_slice_from {t e : TypeId} {size bytes : Nat} (E : Elem t e size bytes) (w : World) (hgd : o.guard = none) (x lo : Operand) (hop : o.op = .slice t x (some lo) none none) (v : Value) (n : Nat) (cs : List Value) (hx : a.eval x = v) (hr : ReadsN size w v n cs)
 (k : Nat) (hlo : a.eval lo = .int .i64 (k : Int)) (hk : k <= n) (h : ∀ y, ReadsN size w y (n - k) (cs.drop (k * size)) -> wpList Tryz.prog ops Q rest (a.put o.dst y) w) : wpList Tryz.prog ops Q (o :: rest) a w := by
 refine wpList_plain hgd fun K hK => ?_
 obtain ⟨i, z, hi, hz, h1, h2, h3⟩ := E.info
 obtain ⟨b, cap, rfl, _⟩ := id hr
 have hel : Tryz.prog.elem t = e := by unfold Program.elem; rw [E.und]
 have hu : Tryz.prog.underlying t = some (.slice (Tryz.prog.elem t)) := by rw [hel]; exact E.und
 have hsize : (sizeOf (Tryz.prog.elem t)).run Tryz.prog w = .ok size w := by rw [hel]; simp [sizeOf, typeInfo, hi, h1]
 have hrun := run_slice_l (P := Tryz.prog) (w := w) t b n cap hu .i64 (k : Int) (by omega) (by omega)
 rw [hsize] at hrun
 simp only [Result.andThen_ok, Int.toNat_natCast] at hrun
 unfold Oper.wp execOp
 simp only [hop, hx, hlo, Option.map_some, Option.map_none]
 have hrun2 := run_sliceAt_slice (P := Tryz.prog) (w := w) t (.slice b n cap) (some (.int .i64 (k : Int))) none none hu
 simp [hrun2, hrun, Result.andThen]
 exact hK _ _ (h _ (hr.sliced k hk))
theorem wpl_build1 {t e : TypeId} {size bytes : Nat} (E : Elem t e size bytes) (w : World) (hgd : o.guard = none) (x : Operand) (hop : o.op = .buildSlice t 1 #[(0, x)]) (v : Value) (hv : a.eval x = v) (hvs : v.cells.size = size)
 (h : wpList Tryz.prog ops Q rest (a.put o.dst (.slice (some ⟨w.heap.size, 0, none⟩) 1 1)) (w.alloc (.cells v.cells e))) : wpList Tryz.prog ops Q (o :: rest) a w := by
 obtain ⟨i, z, hi, hz, h1, h2, h3⟩ := E.info
 have hp := E.pos
 have hs := E.small
 refine wpList_plain hgd fun K hK => ?_
 refine wp_buildSlice hop (by simp [hv]) (run_buildSlice_one w t e i z v E.und hi hz (by omega) (by omega) (by omega) (by omega)) (hK _ _ h)
end
def prv (p : S6.Pr) (u : Value) : Value := .agg #[strV p.key, u, .int .u64 (p.ver : Int)]
theorem New.mono {X : Nat -> Prop} {w w1 w2 : World} (h : w1.heap.size <= w2.heap.size) : ∀ k, New X w w1 k -> New X w w2 k := fun _ hk => hk.imp id (fun h2 => ⟨h2.1, Nat.lt_of_lt_of_le h2.2 h⟩)
theorem own_new {X : Nat -> Prop} {w w' : World} {base : Nat} {e : TypeId} {size n : Nat} {v : Value} {xs : List Value} (h : w'.ownsRow base e size v n xs) (hb : w.heap.size <= base) : ∀ k, v.ownBlock = some k -> New X w w' k := fun k hk => .inr ⟨Nat.le_trans hb (h.lt k hk).1, (h.lt k hk).2⟩
theorem PageIn.of_own {X : Nat -> Prop} {w : World} {base : Nat} {v : Value} {ps : List S6.Pr} {us : List Value} {n : Nat} (h : w.ownsRow base 129 3 v n (prcs ps us)) (hn : n = ps.length) (hv : Vals w X ps us) (hX : ∀ k, v.ownBlock = some k -> X k) : PageIn w X v ps := by
 subst hn
 exact ⟨us, hv, ReadsN.of_own h (prcs_one ps us hv.one), hX⟩
theorem Reads.toN {w : World} {v : Value} {cs : List Value} (h : Reads w v cs) : ReadsN 1 w v cs.length cs := by
 obtain ⟨a, cap, hv, h1, h2, hn, h3, h4⟩ := h
 refine ⟨a, cap, hv, by omega, h1, h2, hn, h3, ?_⟩
 rcases h4 with rfl | h4
 ·exact .inl rfl
 ·exact .inr h4
theorem ReadsN.to1 {w : World} {v : Value} {n : Nat} {cs : List Value} (h : ReadsN 1 w v n cs) : Reads w v cs := by
 obtain ⟨a, cap, hv, h0, h1, h2, hn, h3, h4⟩ := h
 have e : n = cs.length := by omega
 subst e
 refine ⟨a, cap, hv, h1, h2, hn, h3, ?_⟩
 rcases h4 with h4 | h4
 ·exact .inl (List.eq_nil_of_length_eq_zero h4)
 ·exact .inr h4
theorem ReadsN.row (sz : Nat) (w : World) (cs : List Value) (e : TypeId) (n : Nat) (hl : cs.length = n * sz) (hn : n <= maxLen) (h1 : ∀ u ∈ cs, u.oneCell' = true) : ReadsN sz (w.alloc (.cells cs.toArray e)) (.slice (some ⟨w.heap.size, 0, none⟩) n n) n cs := by
 refine ⟨_, _, rfl, hl, Nat.le_refl _, hn, by simp, h1, .inr ⟨_, 0, rfl, fun j u' hj => ?_⟩⟩
 rw [World.cell?_alloc_at _ _ _ _ rfl, Nat.zero_add]
 simpa using hj
theorem new2 {X : Nat -> Prop} {w w1 v : World} (h1 : Ext w w1) (h2 : Ext w1 v) : ∀ k, New (New X w w1) w1 v k -> New X w v k := fun k hk => by
 have s1 := h1.size
 have s2 := h2.size
 rcases hk with (hk | hk) | hk
 ·exact .inl hk
 ·exact .inr ⟨hk.1, Nat.lt_of_lt_of_le hk.2 s2⟩
 ·exact .inr ⟨Nat.le_trans s1 hk.1, hk.2⟩
theorem new_last {X : Nat -> Prop} {w w1 : World} (h1 : Ext w w1) (o : Obj) (n c : Nat) : ∀ k, (Value.slice (some ⟨w1.heap.size, 0, none⟩) n c).ownBlock = some k -> New X w (w1.alloc o) k := fun k hk => by
 have h3 : w1.heap.size = k := by simpa [Value.ownBlock] using hk
 have := h1.size
 exact .inr ⟨by omega, by rw [World.size_alloc]; omega⟩
theorem PageIn.one {X : Nat -> Prop} (w : World) (p : S6.Pr) (u : Value) (hu : Bs w u p.val) (hX : ∀ k, u.ownBlock = some k -> X k) :
 PageIn (w.alloc (.cells (prc p u).toArray 129)) (New X w (w.alloc (.cells (prc p u).toArray 129))) (.slice (some ⟨w.heap.size, 0, none⟩) 1 1) [p] := by
 refine ⟨[u], ⟨rfl, fun i a b => ?_⟩, ?_, new_last (Ext.refl w) _ _ _⟩
 ·have : i = 0 := by simpa using a
  subst this
  exact ⟨hu.ext (Ext.of_alloc _ _), fun k hk => .inl (hX k hk)⟩
 ·refine ReadsN.row 3 w _ _ 1 rfl (by unfold maxLen; omega) ?_
  exact prcs_one [p] [u] (fun x hx => by rw [List.mem_singleton] at hx; subst hx; exact hu.oneCell)
theorem IdxIn.one {X : Nat -> Prop} (w : World) (pv : Value) (ps : List S6.Pr) (hp : PageIn w X pv ps) :
 IdxIn (w.alloc (.cells #[pv] 68)) (New X w (w.alloc (.cells #[pv] 68))) (.slice (some ⟨w.heap.size, 0, none⟩) 1 1) [ps] := by
 refine ⟨[pv], Reads.one w pv _ (by obtain ⟨_, a, cap, rfl, _⟩ := hp.shape; rfl), rfl, new_last (Ext.refl w) _ _ _, fun i a b => ?_⟩
 have : i = 0 := by simpa using a
 subst this
 exact (hp.ext (Ext.of_alloc _ _)).mono (fun k hk => .inl hk)
theorem prcs_take : ∀ (ps : List S6.Pr) (us : List Value) (k : Nat), us.length = ps.length -> (prcs ps us).take (k * 3) = prcs (ps.take k) (us.take k)
 | [], us, k, h => by
  obtain rfl : us = [] := List.eq_nil_of_length_eq_zero (by simpa using h)
  simp [prcs]
 | p :: ps, [], k, h => by simp at h
 | p :: ps, u :: us, 0, h => by simp [prcs]
 | p :: ps, u :: us, k + 1, h => by
  have e : (k + 1) * 3 = k * 3 + 1 + 1 + 1 := by omega
  show (prc p u ++ prcs ps us).take ((k + 1) * 3) = prc p u ++ prcs (ps.take k) (us.take k)
  rw [<- prcs_take ps us k (by simpa using h), e]
  simp [prc]
theorem prcs_drop : ∀ (ps : List S6.Pr) (us : List Value) (k : Nat), us.length = ps.length -> (prcs ps us).drop (k * 3) = prcs (ps.drop k) (us.drop k)
 | [], us, k, h => by
  obtain rfl : us = [] := List.eq_nil_of_length_eq_zero (by simpa using h)
  simp [prcs]
 | p :: ps, [], k, h => by simp at h
 | p :: ps, u :: us, 0, h => by simp
 | p :: ps, u :: us, k + 1, h => by
  have e : (k + 1) * 3 = k * 3 + 1 + 1 + 1 := by omega
  show (prc p u ++ prcs ps us).drop ((k + 1) * 3) = prcs (ps.drop k) (us.drop k)
  rw [<- prcs_drop ps us k (by simpa using h), e]
  simp [prc]
theorem PageIn.take {w : World} {X : Nat -> Prop} {a : Option Addr} {n cap : Nat} {ps : List S6.Pr} (h : PageIn w X (.slice a n cap) ps) (k : Nat) (hk : k <= n) : PageIn w X (.slice a k cap) (ps.take k) := by
 obtain ⟨us, h1, h2, h3⟩ := h
 obtain rfl : n = ps.length := by obtain ⟨a', c', e, _⟩ := h2; exact (Value.slice.inj e).2.1
 refine ⟨us.take k, h1.take k, ?_, fun b hb => h3 b (by cases a <;> exact hb)⟩
 rw [<- prcs_take ps us k h1.1, List.length_take, Nat.min_eq_left hk]
 exact h2.take k hk
theorem PageIn.drop {w : World} {X : Nat -> Prop} {b off n cap : Nat} {ps : List S6.Pr} (h : PageIn w X (.slice (some ⟨b, off, none⟩) n cap) ps) (k : Nat) (hk : k <= n) : PageIn w X (.slice (some ⟨b, off + k * 3, none⟩) (n - k) (cap - k)) (ps.drop k) := by
 obtain ⟨us, h1, h2, h3⟩ := h
 obtain rfl : n = ps.length := by obtain ⟨a', c', e, _⟩ := h2; exact (Value.slice.inj e).2.1
 refine ⟨us.drop k, h1.drop k, ?_, fun j hj => h3 j (by simpa [Value.ownBlock] using hj)⟩
 rw [<- prcs_drop ps us k h1.1, List.length_drop]
 exact h2.drop k hk
def PgsIn (w : World) (X : Nat -> Prop) (vs : List Value) (x : S6.Idx) : Prop := vs.length = x.length /\ ∀ (i : Nat) (ps : List S6.Pr) (v : Value), x[i]? = some ps -> vs[i]? = some v -> PageIn w X v ps
theorem PgsIn.mono {w : World} {X Y : Nat -> Prop} {vs : List Value} {x : S6.Idx} (h : PgsIn w X vs x) (hXY : ∀ k, X k -> Y k) : PgsIn w Y vs x := ⟨h.1, fun i a b c d => (h.2 i a b c d).mono hXY⟩
theorem PgsIn.ext {w w' : World} {X : Nat -> Prop} {vs : List Value} {x : S6.Idx} (h : PgsIn w X vs x) (he : Ext w w') : PgsIn w' X vs x := ⟨h.1, fun i a b c d => (h.2 i a b c d).ext he⟩
theorem PgsIn.app {w : World} {X : Nat -> Prop} {vs us : List Value} {x y : S6.Idx} (h : PgsIn w X vs x) (k : PgsIn w X us y) : PgsIn w X (vs ++ us) (x ++ y) := by
 refine ⟨by rw [List.length_append, List.length_append, h.1, k.1], fun i ps v h1 h2 => ?_⟩
 rcases Nat.lt_or_ge i x.length with hi | hi
 ·rw [List.getElem?_append_left hi] at h1
  rw [List.getElem?_append_left (by rw [h.1]; exact hi)] at h2
  exact h.2 i ps v h1 h2
 ·rw [List.getElem?_append_right hi] at h1
  rw [List.getElem?_append_right (by rw [h.1]; exact hi), h.1] at h2
  exact k.2 _ ps v h1 h2
theorem PgsIn.take {w : World} {X : Nat -> Prop} {vs : List Value} {x : S6.Idx} (h : PgsIn w X vs x) (n : Nat) : PgsIn w X (vs.take n) (x.take n) := by
 refine ⟨by rw [List.length_take, List.length_take, h.1], fun i ps v h1 h2 => ?_⟩
 rw [List.getElem?_take] at h1 h2
 split at h1
 ·rename_i hi; rw [if_pos hi] at h2; exact h.2 i ps v h1 h2
 ·cases h1
theorem PgsIn.drop {w : World} {X : Nat -> Prop} {vs : List Value} {x : S6.Idx} (h : PgsIn w X vs x) (n : Nat) : PgsIn w X (vs.drop n) (x.drop n) :=
 ⟨by rw [List.length_drop, List.length_drop, h.1], fun i ps v h1 h2 => by rw [List.getElem?_drop] at h1 h2; exact h.2 _ ps v h1 h2⟩
theorem PgsIn.one {w : World} {X : Nat -> Prop} {v : Value} {ps : List S6.Pr} (h : PageIn w X v ps) : PgsIn w X [v] [ps] := by
 refine ⟨rfl, fun i a b c d => ?_⟩
 cases i with
 | zero => obtain rfl := Option.some.inj c; obtain rfl := Option.some.inj d; exact h
 | succ i => cases c
theorem PgsIn.cell {w : World} {X : Nat -> Prop} {vs : List Value} {x : S6.Idx} (h : PgsIn w X vs x) : ∀ u ∈ vs, u.oneCell' = true := by
 intro u hu
 obtain ⟨i, hi, rfl⟩ := List.getElem_of_mem hu
 have hi2 : i < x.length := by rw [<- h.1]; exact hi
 obtain ⟨_, a, c, e, _⟩ := (h.2 i x[i] vs[i] (List.getElem?_eq_getElem hi2) (List.getElem?_eq_getElem hi)).shape
 rw [e]; rfl
theorem IdxIn.of_own {X : Nat -> Prop} {w : World} {base : Nat} {v : Value} {x : S6.Idx} {vs : List Value} {n : Nat} {e : TypeId} (h : w.ownsRow base e 1 v n vs) (hp : PgsIn w X vs x) (hX : ∀ k, v.ownBlock = some k -> X k) : IdxIn w X v x :=
 ⟨vs, (ReadsN.of_own h hp.cell).to1, hp.1, hX, fun i a b => hp.2 i _ _ (List.getElem?_eq_getElem a) (List.getElem?_eq_getElem b)⟩
theorem own_slice {w : World} {base : Nat} {e : TypeId} {sz : Nat} {v : Value} {n : Nat} {xs : List Value} (h : w.ownsRow base e sz v n xs) (hn : 0 < n) : ∃ g c, v = .slice (some ⟨g, 0, none⟩) n c /\ n <= c := by
 obtain ⟨_, h2⟩ := h
 rcases h2 with ⟨_, h0⟩ | ⟨g, cap, cur, rfl, hg, hh, hnc, _⟩
 ·omega
 ·exact ⟨g, cap, rfl, hnc⟩
theorem run_build2 (w : World) (u v : Value) (hu : u.cells = #[u]) (hv : v.cells = #[v]) : (Instr.buildSlice 85 2 #[(0, u), (1, v)]).run Tryz.prog w = .ok (.slice (some ⟨w.heap.size, 0, none⟩) 2 2) (w.alloc (.cells #[u, v] 68)) := by
 have hsize : (sizeOf 68).run Tryz.prog w = .ok 1 w := by kernel_rfl
 have hzero : (zeroValue 68).run Tryz.prog w = .ok (.slice none 0 0) w := by kernel_rfl
 have hfill : Instr.fill (fun i => some (i * 1, 1)) ((Array.range (2 * 1)).map ((Value.slice none 0 0).cells[· % (Value.slice none 0 0).cells.size]!)) [(0, u), (1, v)] = some #[u, v] := by
  have e1 : ((Array.range (2 * 1)).map ((Value.slice none 0 0).cells[· % (Value.slice none 0 0).cells.size]!)) = [Value.slice none 0 0, Value.slice none 0 0].toArray := by kernel_rfl
  rw [e1, fill_one _ _ 0 u _ 0 1 rfl (by rw [hu]; rfl) (by decide), hu, fill_one _ _ 1 v _ 1 1 rfl (by rw [hv]; rfl) (by simp), hv]
  rfl
 unfold Instr.buildSlice
 rw [Sem.run_bind, run_underlying Tryz.underlying85]
 simp only [Result.andThen_ok]
 rw [Sem.run_bind, hsize]
 simp only [Result.andThen_ok]
 rw [if_neg (show ¬ (2 * 1 > 2 ^ 24) by decide), if_neg (show ¬ (2 * 1 = 0) by decide)]
 simp only [Sem.run_bind, hzero, Result.andThen_ok, Sem.run_pure, hfill]
 simp [newRow]
theorem put_empty (w : World) (X : Nat -> Prop) (xv : Value) (pr : S6.Pr) (u : Value) (h : IdxIn w X xv []) (hu : Bs w u pr.val) (huX : ∀ k, u.ownBlock = some k -> X k) :
 Calls Tryz.prog 65 #[xv, prv pr u] w fun e w' => ∃ v', e = .returned v' /\ IdxIn w' (New X w w') v' [[pr]] /\ Ext w w' := by
 obtain ⟨_, a, cap, rfl, hca, hh⟩ := h.shape
 clear hh h
 have HU := qh hu
 obtain ⟨ua, uc, rfl⟩ := hu.shape
 clear hu
 have hlen : pr.val.length <= 9223372036854775807 := HU.out.length_le
 generalize hpl : pr.val.length = pl at *
 unfold prv strV
 go_enter Tryz.func65, Tryz.ntmps65
 go_upto_region 60 with (first
  | ((with_reducible show wpList _ _ _ (⟨some 14, _, _, _, _, _⟩ :: _) _ _); refine wpl_build1 el_pair _ rfl _ rfl _ rfl (by rfl) ?_)
  | ((with_reducible show wpList _ _ _ (⟨some 15, _, _, _, _, _⟩ :: _) _ _); refine wpl_build1 el_page _ rfl _ rfl _ rfl (by rfl) ?_)
  | fail)
 have hx1 := Ext.of_alloc w (.cells #[.string ⟨pr.key.toArray⟩, .slice ua pl uc, .int .u64 (pr.ver : Int)] 129)
 have hx2 := Ext.of_alloc (w.alloc (.cells #[.string ⟨pr.key.toArray⟩, .slice ua pl uc, .int .u64 (pr.ver : Int)] 129)) (.cells #[.string ⟨pr.key.toArray⟩, .slice ua pl uc, .int .u64 (pr.ver : Int)] 129)
 have HP := (PageIn.one (X := New X w (w.alloc (.cells #[.string ⟨pr.key.toArray⟩, .slice ua pl uc, .int .u64 (pr.ver : Int)] 129))) _ pr (.slice ua pl uc) (HU.out.ext hx1) (fun k hk => .inl (huX k hk))).mono (new2 hx1 hx2)
 have HI := qh ((IdxIn.one _ _ [pr] HP).mono (new2 (hx1.trans hx2) (Ext.of_alloc _ _)))
 unfold prc strV at HI
 simp only [World.size_alloc] at HI
 have HX := qh ((hx1.trans hx2).trans (Ext.of_alloc _ (.cells #[.slice (some ⟨w.heap.size + 1, 0, none⟩) 1 1] 68)))
 go_ret
 exact ⟨_, rfl, HI.out, HX.out⟩
theorem put_some (w : World) (X : Nat -> Prop) (xv : Value) (x : S6.Idx) (pr : S6.Pr) (u : Value) (h : IdxIn w X xv x) (ho : S6.IOk x) (hl : x.length <= 1000000) (hl2 : ∀ p ∈ x, p.length <= 1000000) (hu : Bs w u pr.val) (huX : ∀ k, u.ownBlock = some k -> X k) (h0 : x ≠ []) :
 Calls Tryz.prog 65 #[xv, prv pr u] w fun e w' => ∃ v', e = .returned v' /\ IdxIn w' (New X w w') v' (S6.put x pr) /\ Ext w w' := by
 obtain ⟨hp, A0, M0, B0, he, hz⟩ := S6.place ho pr.key h0
 clear hz A0 M0 B0
 have hput : S6.put x pr = x.take (S6.pageNo x pr.key) ++ S6.halves (S6.pgPut x[S6.pageNo x pr.key] pr) ++ x.drop (S6.pageNo x pr.key + 1) := by unfold S6.put; rw [if_neg h0, he]
 have hfd : S6.find x pr.key = (S6.pageNo x pr.key, S6.atNo x[S6.pageNo x pr.key] pr.key, S6.hasIn x[S6.pageNo x pr.key] pr.key) := by unfold S6.find; rw [if_neg h0, he]
 have HF := qh (fun v (hx : Ext w v) => find_any v X xv x pr.key (h.ext hx) ho hl hl2)
 rw [hfd] at HF
 unfold S6.pgPut at hput
 rw [hput]
 clear hput hfd he
 have hat : S6.atNo x[S6.pageNo x pr.key] pr.key + S6.one (S6.hasIn x[S6.pageNo x pr.key] pr.key) <= (x[S6.pageNo x pr.key]).length := by
  have h1 := S6.atNo_le x[S6.pageNo x pr.key] pr.key
  unfold S6.hasIn S6.one
  cases hq : (x[S6.pageNo x pr.key])[S6.atNo x[S6.pageNo x pr.key] pr.key]? with
  | none => simp; exact h1
  | some a =>
   have := (List.getElem?_eq_some_iff.1 hq).1
   simp only
   split <;> omega
 obtain ⟨vs, hrd, hvl, hvX, hpg⟩ := h
 have hpv : S6.pageNo x pr.key < vs.length := by rw [hvl]; exact hp
 obtain ⟨us, hus, hpr, hpX⟩ := hpg _ hp hpv
 have hpl : (x[S6.pageNo x pr.key]).length <= 1000000 := hl2 _ (List.getElem_mem _)
 generalize S6.atNo x[S6.pageNo x pr.key] pr.key = at0 at *
 generalize S6.hasIn x[S6.pageNo x pr.key] pr.key = has at *
 have HPG : Hid (∀ i ps v, x[i]? = some ps -> vs[i]? = some v -> PageIn w X v ps) := fun i ps v h1 h2 => by
  obtain ⟨g1, rfl⟩ := List.getElem?_eq_some_iff.1 h1
  obtain ⟨g2, rfl⟩ := List.getElem?_eq_some_iff.1 h2
  exact hpg i g1 g2
 have HRD := qh hrd
 have HVX := qh hvX
 clear hpg hl2 ho hvX hpX
 obtain ⟨b, off, cap, rfl, hcell⟩ : ∃ b off cap, xv = .slice (some ⟨b, off, none⟩) x.length cap /\ x.length <= cap /\ w.cell? ⟨b, off + S6.pageNo x pr.key, none⟩ = some vs[S6.pageNo x pr.key] := by
  obtain ⟨a, cap, hv, g1, _, _, _, g2⟩ := hrd
  rcases g2 with rfl | ⟨b, off, rfl, hc⟩
  ·simp at hpv
  ·exact ⟨b, off, cap, by rw [<- hvl]; exact hv, by omega, hc _ _ (List.getElem?_eq_getElem hpv)⟩
 obtain ⟨hcap, hcell⟩ := hcell
 have hpp : S6.pageNo x pr.key < x.length := hp
 have hpg0 : x[S6.pageNo x pr.key] = (x[S6.pageNo x pr.key]'hpp) := rfl
 generalize hpq : x[S6.pageNo x pr.key] = pg at *
 generalize hvq : vs[S6.pageNo x pr.key] = pv at *
 generalize S6.pageNo x pr.key = p at *
 obtain ⟨a2, cap2, rfl, hca2⟩ : ∃ a2 cap2, pv = .slice a2 pg.length cap2 /\ pg.length <= cap2 := by
  obtain ⟨a2, cap2, hv, _, g1, _⟩ := hpr
  exact ⟨a2, cap2, hv, g1⟩
 have HPR := qh hpr
 have HUS := qh hus
 have HU := qh hu
 have HUX := qh huX
 obtain ⟨ua, uc, rfl⟩ := hu.shape
 have hvlen := hu.length_le
 have hne : ((x.length : Int) == 0) = false := by rw [beq_eq_false_iff_ne]; omega
 have hpi : (p : Int) < (x.length : Int) := by omega
 clear hpr hus hu huX hrd hpg0 hpq hvq
 have hul : us.length = pg.length := HUS.out.1
 generalize hn : x.length = n at *
 generalize hm : pg.length = m at *
 generalize hvv : pr.val.length = vl at *
 obtain ⟨W1, hW1⟩ : ∃ W1, W1 = w.alloc (.cells #[strV pr.key, .slice ua vl uc, .int .u64 (pr.ver : Int)] 129) := ⟨_, rfl⟩
 have hb1 : W1.heap[w.heap.size]? = some (.cells #[strV pr.key, .slice ua vl uc, .int .u64 (pr.ver : Int)] 129 (0, 0)) := by rw [hW1]; exact heap_alloc_new w _
 have hx1 : Ext w W1 := by rw [hW1]; exact Ext.of_alloc _ _
 have HF1 := qh (HF.out W1 hx1)
 have HPC : Hid (W1.cell? ⟨w.heap.size, 0, none⟩ = some (strV pr.key) /\ W1.cell? ⟨w.heap.size, 1, none⟩ = some (.slice ua vl uc) /\ W1.cell? ⟨w.heap.size, 2, none⟩ = some (.int .u64 (pr.ver : Int))) :=
  ⟨blk_cell hb1 0, blk_cell hb1 1, blk_cell hb1 2⟩
 have hcell1 := hx1.cell hcell
 have HCL := qh hcell
 have HX1 := qh hx1
 clear HF hcell hx1
 unfold findV at HF1
 unfold prv strV at *
 go_enter Tryz.func65, Tryz.ntmps65
 go_upto_region 3 with fail
 rw [<- hW1]
 clear hW1 hb1
 generalize w.heap.size = bb at *
 obtain ⟨q0, q1, q2⟩ := HPC.out
 go_wp2_with fail
 refine HF1.out.mono ?_
 clear HF1
 rintro e w2 ⟨rfl, hx2⟩
 have HX2 := qh hx2
 have hcell2 := hx2.cell hcell1
 clear q0 q1 q2 hcell1 hx2
 dsimp only
 have hatm : at0 <= m := by unfold S6.one at hat; split at hat <;> omega
 have hati : (at0 : Int) <= (cap2 : Int) := by omega
 have hcaps : (m : Int) <= (cap2 : Int) := by omega
 go_upto_region 6 with (first
  | ((with_reducible show wpList _ _ _ (⟨some 30, _, _, _, _, _⟩ :: _) _ _); refine wpl_app W1 el_pair _ HX2.out rfl _ _ rfl (.slice none 0 0) 0 [] rfl (World.ownsRow_nil _ _ _ _) (.slice a2 at0 cap2) at0 _ (by rfl) ((HPR.out.ext (HX1.out.trans HX2.out)).take at0 hatm) (by omega) (by omega) ?_; intro v1 w3 hown3 hx3; rw [Nat.zero_add, List.nil_append] at hown3; have HO3 := qh hown3; have HX3 := qh hx3; have hq0 := hx3.cell HPC.out.1; have hq1 := hx3.cell HPC.out.2.1; have hq2 := hx3.cell HPC.out.2.2; clear hown3 hx3)
  | ((with_reducible show wpList _ _ _ (⟨some 33, _, _, _, _, _⟩ :: _) _ _); refine wpl_build1 el_pair _ rfl _ rfl _ rfl (by rfl) ?_)
  | ((with_reducible show wpList _ _ _ (⟨some 34, _, _, _, _, _⟩ :: _) _ _); refine wpl_app W1 el_pair _ (HX3.out.trans (Ext.of_alloc w3 _)) rfl _ _ rfl _ at0 ((prcs pg us).take (at0 * 3)) (by rfl) ((Ext.of_alloc w3 _).keptOwn HO3.out) (.slice (some ⟨w3.heap.size, 0, none⟩) 1 1) 1 [.string ⟨pr.key.toArray⟩, .slice ua vl uc, .int .u64 (pr.ver : Int)] (by rfl) (ReadsN.row 3 w3 [.string ⟨pr.key.toArray⟩, .slice ua vl uc, .int .u64 (pr.ver : Int)] 129 1 rfl (by unfold maxLen; omega) (by simp [Value.oneCell'])) (by omega) (by omega) ?_; intro v2 w4 hown4 hx4; have HO4 := qh hown4; have HX4 := qh hx4; have hcell4 := (HX1.out.trans hx4).cell HCL.out; clear hown4 hx4 HO3 HX3 hq0 hq1 hq2 hcell2)
  | fail)
 have HRN := qh HRD.out.toN
 rw [hvl] at HRN
 obtain ⟨ipg, zpg, hip, hzp, hp1, hp2, hp3⟩ := el_page.info
 have HPS : Hid (PgsIn w X vs x) := ⟨by omega, HPG.out⟩
 cases has
 ·have hat1 : at0 <= m := hatm
  go_upto_region 9 with (first
   | ((with_reducible show wpList _ _ _ (⟨some 44, _, _, _, _, _⟩ :: _) _ _); refine wpl_slice_from el_pair _ rfl _ _ rfl (.slice a2 m cap2) m (prcs pg us) (by rfl) (HPR.out.ext (HX1.out.trans HX4.out)) at0 (by rfl) hat1 ?_; intro y5 hr5; have HR5 := qh hr5; clear hr5)
   | ((with_reducible show wpList _ _ _ (⟨some 45, _, _, _, _, _⟩ :: _) _ _); refine wpl_app W1 el_pair _ HX4.out rfl _ _ rfl v2 (at0 + 1) _ (by rfl) HO4.out y5 (m - at0) _ (by rfl) HR5.out (by omega) (by omega) ?_; intro v3 w5 hown5 hx5; obtain ⟨g3, c3, rfl, hc3⟩ := own_slice hown5 (by omega); have HO5 := qh hown5; have HX5 := qh (HX1.out.trans hx5); have HXW := qh hx5; clear hown5 hx5 HR5 HO4 HX4 hcell4)
   | fail)
  have HP5 : Hid (PageIn w5 (New X w w5) (.slice (some ⟨g3, 0, none⟩) (at0 + 1 + (m - at0)) c3) (pg.take at0 ++ pr :: pg.drop (at0))) := by
   have hv5 : Vals w5 (New X w w5) (pg.take at0 ++ ([pr] ++ pg.drop (at0))) (us.take at0 ++ ([.slice ua vl uc] ++ us.drop (at0))) := by
    have h1 := (HUS.out.ext HX5.out).mono (fun k hk => (.inl hk : New X w w5 k))
    refine (h1.take at0).app (Vals.app ⟨rfl, fun i a c => ?_⟩ (h1.drop (at0)))
    have : i = 0 := by simpa using a
    subst this
    exact ⟨HU.out.ext HX5.out, fun k hk => .inl (HUX.out k hk)⟩
   have hv6 : Vals w5 (New X w w5) (pg.take at0 ++ pr :: pg.drop (at0)) (us.take at0 ++ .slice ua vl uc :: us.drop (at0)) := hv5
   have h2 := HO5.out
   rw [prcs_take pg us at0 (by omega), prcs_drop pg us (at0) (by omega)] at h2
   have h3 : prcs (pg.take at0 ++ pr :: pg.drop (at0)) (us.take at0 ++ .slice ua vl uc :: us.drop (at0)) = prcs (pg.take at0) (us.take at0) ++ [.string ⟨pr.key.toArray⟩, .slice ua vl uc, .int .u64 (pr.ver : Int)] ++ prcs (pg.drop (at0)) (us.drop (at0)) := by
    rw [prcs_append _ _ _ _ (by simp; omega), List.append_assoc]
    rfl
   rw [<- h3] at h2
   exact PageIn.of_own h2 (by simp; omega) hv6 (own_new HO5.out HX1.out.size)
  have hpl3 : (pg.take at0 ++ pr :: pg.drop (at0)).length = (at0 + 1 + (m - at0)) := by simp; omega
  clear HO5
  go_upto_region 10 with (first
   | ((with_reducible show wpList _ _ _ (⟨some 49, _, _, _, _, _⟩ :: _) _ _); refine wpl_app w5 el_page _ (Ext.refl w5) rfl _ _ rfl (.slice none 0 0) 0 [] rfl (World.ownsRow_nil _ _ _ _) (.slice (some ⟨b, off, none⟩) p cap) p _ (by rfl) ((HRN.out.ext HX5.out).take p (by omega)) (by omega) (by omega) ?_; intro v6 w6 hown6 hx6; rw [Nat.zero_add, List.nil_append] at hown6; have HO6 := qh hown6; have HX6 := qh hx6; clear hown6 hx6)
   | fail)
  by_cases h16 : 16 < (at0 + 1 + (m - at0))
  ·have h16i : (16 : Int) < (((at0 + 1 + (m - at0)) : Nat) : Int) := by omega
   have hhal : S6.halves (pg.take at0 ++ pr :: pg.drop (at0)) = [(pg.take at0 ++ pr :: pg.drop (at0)).take 8, (pg.take at0 ++ pr :: pg.drop (at0)).drop 8] := by unfold S6.halves; rw [if_pos (by omega)]
   clear hpl3
   generalize (at0 + 1 + (m - at0)) = L at *
   have hc8 : ¬ c3 = 8 := by omega
   have hc8i : (8 : Int) <= (c3 : Int) := by omega
   have hc8j : (8 : Int) <= (L : Int) := by omega
   go_upto_region 11 with fail
   have hHX := Ext.of_drew w6
   have hHeld := hHX
   refine wp_region_C (fun w' => Ext w6 w') 5 (by kernel_rfl) ?_
   (refine aP (i := 0) (oi := ⟨some 53, _, _, _, _, _⟩) (v := ?_) rfl ?_ hHeld ?_; rotate_left; (focus (intro w; go_simp; first | done | with_reducible rfl)); try simp only [Act.put, zB, zC, zD])
   (refine aC [2, 5] (i := 1) (oi := ⟨some 54, _, _, _, _, _⟩) (v := ?_) rfl ?_ hHeld ?_; rotate_left; (focus (intro w hSw; (skip); go_simp; first | done | with_reducible rfl)); try simp only [Act.put, zB, zC, zD])
   (refine aC [5] (i := 2) (oi := ⟨some 55, _, _, _, _, _⟩) (v := ?_) rfl ?_ hHeld ?_; rotate_left; (focus (intro w hSw; (skip); go_simp; first | done | with_reducible rfl)); try simp only [Act.put, zB, zC, zD])
   (refine aC [4, 5] (i := 3) (oi := ⟨some 56, _, _, _, _, _⟩) (v := ?_) rfl ?_ hHeld ?_; rotate_left; (focus (intro w hSw; (skip); go_simp; first | done | with_reducible rfl)); try simp only [Act.put, zB, zC, zD])
   (refine aC [5] (i := 4) (oi := ⟨some 57, _, _, _, _, _⟩) (v := ?_) rfl ?_ hHeld ?_; rotate_left; (focus (intro w hSw; (skip); go_simp; first | done | with_reducible rfl)); try simp only [Act.put, zB, zC, zD])
   refine wpAnyC_c (oi := ⟨some 58, _, _, _, _, _⟩) rfl (by kernel_rfl) (fun K hK => ?_)
   rw [if_pos (by rfl)]
   refine wp_buildSlice rfl (by simp [Act.eval]) (run_build2 _ (.slice (some ⟨g3, 0, none⟩) 8 c3) (.slice (some ⟨g3, 24, none⟩) (L - 8) (c3 - 8)) rfl rfl) ?_
   refine hK.out _ _ ?_
   clear hK K
   try simp only [Act.put, zB, zC, zD]
   refine wpAny_one (i := 6) (oi := ⟨some 59, _, _, _, _, _⟩) rfl (by kernel_rfl) (fun K hK => ?_)
   rw [if_pos (by rfl)]
   refine wp_append_own _ _ _ 85 rfl w5.heap.size 68 ipg zpg 1 24 el_page.und hip hzp hp1 hp2 hp3 (by decide) v6 p _ (by rfl) (((Ext.of_drew w6).trans (Ext.of_alloc _ _)).keptOwn HO6.out) ⟨w6.drew.heap.size, 0, none⟩ 2 2 [.slice (some ⟨g3, 0, none⟩) 8 c3, .slice (some ⟨g3, 24, none⟩) (L - 8) (c3 - 8)] (by rfl) rfl (fun j u hj => by rw [Addr.add_lit, World.cell?_alloc_at _ _ _ _ rfl, Nat.zero_add]; simpa using hj) (by simp [Value.oneCell']) (by unfold maxLen; omega) (by omega) (HX6.out.trans ((Ext.of_drew w6).trans (Ext.of_alloc _ _))).size ?_
   intro v8 w8 hown8 hg8 _
   have HX8 := qh (grown_ext (HX6.out.trans ((Ext.of_drew w6).trans (Ext.of_alloc _ _))) (((Ext.of_drew w6).trans (Ext.of_alloc _ _)).keptOwn HO6.out) hg8)
   have HXF := qh (HX5.out.trans HX8.out)
   have HO8 := qh hown8
   clear hown8 hg8 HO6 HX6
   refine hK.out _ _ ?_
   clear hK K
   try simp only [Act.put, zB, zC, zD]
   (refine aT (i := 7) (oi := ⟨some 9, _, _, _, _, _⟩) (v := ?_) rfl ?_ ?_; rotate_left; (focus (intro w; go_simp; first | done | with_reducible rfl)); try simp only [Act.put, zB, zC, zD])
   refine wpAny_done (by kernel_rfl) ?_ _
   clear hHX hHeld
   go_upto_region 14 with (first
    | ((with_reducible show wpList _ _ _ (⟨some 68, _, _, _, _, _⟩ :: _) _ _); refine wpl_slice_from el_page _ rfl _ _ rfl (.slice (some ⟨b, off, none⟩) n cap) n vs (by rfl) (HRN.out.ext HXF.out) (p + 1) (by rfl) (by omega) ?_; intro y9 hr9; have HR9 := qh hr9; clear hr9)
    | ((with_reducible show wpList _ _ _ (⟨some 69, _, _, _, _, _⟩ :: _) _ _); refine wpl_app w5 el_page _ HX8.out rfl _ _ rfl v8 (p + 2) _ (by rfl) HO8.out y9 (n - (p + 1)) _ (by rfl) HR9.out (by omega) (by omega) ?_; intro v9 w9 hown9 hx9; have HO9 := qh hown9; have HX9 := qh hx9; clear hown9 hx9 HR9 HO8 HX8)
    | fail)
   go_ret
   have hpgs := ((HPS.out.ext (HX5.out.trans HX9.out)).mono (fun k hk => (.inl hk : New X w w9 k)))
   refine ⟨_, rfl, ?_, HX5.out.trans HX9.out⟩
   refine IdxIn.of_own (X := New X w w9) HO9.out ?_ (own_new HO9.out HX5.out.size)
   rw [Nat.mul_one, Nat.mul_one, show at0 + S6.one false = at0 from rfl, hhal]
   have hfin := ((hpgs.take p).app ((PgsIn.one (((HP5.out.ext HX9.out).mono (New.mono HX9.out.size)).take 8 (by omega))).app (PgsIn.one (((HP5.out.ext HX9.out).mono (New.mono HX9.out.size)).drop 8 (by omega))))).app (hpgs.drop (p + 1))
   first | exact hfin | (rw [List.append_assoc (x.take p)] at hfin; exact hfin)
  ·have h16i : ¬ (16 : Int) < (((at0 + 1 + (m - at0)) : Nat) : Int) := by omega
   have h16d : decide (16 < (at0 + 1 + (m - at0))) = false := decide_eq_false h16
   have hhal : S6.halves (pg.take at0 ++ pr :: pg.drop (at0)) = [pg.take at0 ++ pr :: pg.drop (at0)] := by unfold S6.halves; rw [if_neg (by omega)]
   clear hpl3
   generalize (at0 + 1 + (m - at0)) = L at *
   go_upto_region 13 with (first
    | ((with_reducible show wpList _ _ _ (⟨some 62, _, _, _, _, _⟩ :: _) _ _); refine wpl_build1 el_page _ rfl _ rfl _ rfl (by rfl) ?_)
    | ((with_reducible show wpList _ _ _ (⟨some 63, _, _, _, _, _⟩ :: _) _ _); refine wpl_app w5 el_page _ (HX6.out.trans (Ext.of_alloc w6 _)) rfl _ _ rfl v6 p _ (by rfl) ((Ext.of_alloc w6 _).keptOwn HO6.out) (.slice (some ⟨w6.heap.size, 0, none⟩) 1 1) 1 [.slice (some ⟨g3, 0, none⟩) L c3] (by rfl) (ReadsN.row 1 w6 [.slice (some ⟨g3, 0, none⟩) L c3] _ 1 rfl (by unfold maxLen; omega) (by simp [Value.oneCell'])) (by omega) (by omega) ?_; intro v8 w8 hown8 hx8; have HO8 := qh hown8; have HX8 := qh hx8; have HXF := qh (HX5.out.trans hx8); clear hown8 hx8 HO6 HX6)
    | fail)
   go_upto_region 14 with (first
    | ((with_reducible show wpList _ _ _ (⟨some 68, _, _, _, _, _⟩ :: _) _ _); refine wpl_slice_from el_page _ rfl _ _ rfl (.slice (some ⟨b, off, none⟩) n cap) n vs (by rfl) (HRN.out.ext HXF.out) (p + 1) (by rfl) (by omega) ?_; intro y9 hr9; have HR9 := qh hr9; clear hr9)
    | ((with_reducible show wpList _ _ _ (⟨some 69, _, _, _, _, _⟩ :: _) _ _); refine wpl_app w5 el_page _ HX8.out rfl _ _ rfl v8 (p + 1) _ (by rfl) HO8.out y9 (n - (p + 1)) _ (by rfl) HR9.out (by omega) (by omega) ?_; intro v9 w9 hown9 hx9; have HO9 := qh hown9; have HX9 := qh hx9; clear hown9 hx9 HR9 HO8 HX8)
    | fail)
   go_ret
   have hpgs := ((HPS.out.ext (HX5.out.trans HX9.out)).mono (fun k hk => (.inl hk : New X w w9 k)))
   refine ⟨_, rfl, ?_, HX5.out.trans HX9.out⟩
   refine IdxIn.of_own (X := New X w w9) HO9.out ?_ (own_new HO9.out HX5.out.size)
   rw [Nat.mul_one, Nat.mul_one, show at0 + S6.one false = at0 from rfl, hhal]
   have hfin := ((hpgs.take p).app (PgsIn.one ((HP5.out.ext HX9.out).mono (New.mono HX9.out.size)))).app (hpgs.drop (p + 1))
   first | exact hfin | (rw [List.append_assoc (x.take p)] at hfin; exact hfin)
 ·have hat1 : at0 + 1 <= m := hat
  go_upto_region 9 with (first
   | ((with_reducible show wpList _ _ _ (⟨some 44, _, _, _, _, _⟩ :: _) _ _); refine wpl_slice_from el_pair _ rfl _ _ rfl (.slice a2 m cap2) m (prcs pg us) (by rfl) (HPR.out.ext (HX1.out.trans HX4.out)) (at0 + 1) (by rfl) hat1 ?_; intro y5 hr5; have HR5 := qh hr5; clear hr5)
   | ((with_reducible show wpList _ _ _ (⟨some 45, _, _, _, _, _⟩ :: _) _ _); refine wpl_app W1 el_pair _ HX4.out rfl _ _ rfl v2 (at0 + 1) _ (by rfl) HO4.out y5 (m - (at0 + 1)) _ (by rfl) HR5.out (by omega) (by omega) ?_; intro v3 w5 hown5 hx5; rw [show at0 + 1 + (m - (at0 + 1)) = m by omega] at hown5; obtain ⟨g3, c3, rfl, hc3⟩ := own_slice hown5 (by omega); have HO5 := qh hown5; have HX5 := qh (HX1.out.trans hx5); have HXW := qh hx5; clear hown5 hx5 HR5 HO4 HX4 hcell4)
   | fail)
  have HP5 : Hid (PageIn w5 (New X w w5) (.slice (some ⟨g3, 0, none⟩) m c3) (pg.take at0 ++ pr :: pg.drop ((at0 + 1)))) := by
   have hv5 : Vals w5 (New X w w5) (pg.take at0 ++ ([pr] ++ pg.drop ((at0 + 1)))) (us.take at0 ++ ([.slice ua vl uc] ++ us.drop ((at0 + 1)))) := by
    have h1 := (HUS.out.ext HX5.out).mono (fun k hk => (.inl hk : New X w w5 k))
    refine (h1.take at0).app (Vals.app ⟨rfl, fun i a c => ?_⟩ (h1.drop ((at0 + 1))))
    have : i = 0 := by simpa using a
    subst this
    exact ⟨HU.out.ext HX5.out, fun k hk => .inl (HUX.out k hk)⟩
   have hv6 : Vals w5 (New X w w5) (pg.take at0 ++ pr :: pg.drop ((at0 + 1))) (us.take at0 ++ .slice ua vl uc :: us.drop ((at0 + 1))) := hv5
   have h2 := HO5.out
   rw [prcs_take pg us at0 (by omega), prcs_drop pg us ((at0 + 1)) (by omega)] at h2
   have h3 : prcs (pg.take at0 ++ pr :: pg.drop ((at0 + 1))) (us.take at0 ++ .slice ua vl uc :: us.drop ((at0 + 1))) = prcs (pg.take at0) (us.take at0) ++ [.string ⟨pr.key.toArray⟩, .slice ua vl uc, .int .u64 (pr.ver : Int)] ++ prcs (pg.drop ((at0 + 1))) (us.drop ((at0 + 1))) := by
    rw [prcs_append _ _ _ _ (by simp; omega), List.append_assoc]
    rfl
   rw [<- h3] at h2
   exact PageIn.of_own h2 (by simp; omega) hv6 (own_new HO5.out HX1.out.size)
  have hpl3 : (pg.take at0 ++ pr :: pg.drop ((at0 + 1))).length = m := by simp; omega
  clear HO5
  go_upto_region 10 with (first
   | ((with_reducible show wpList _ _ _ (⟨some 49, _, _, _, _, _⟩ :: _) _ _); refine wpl_app w5 el_page _ (Ext.refl w5) rfl _ _ rfl (.slice none 0 0) 0 [] rfl (World.ownsRow_nil _ _ _ _) (.slice (some ⟨b, off, none⟩) p cap) p _ (by rfl) ((HRN.out.ext HX5.out).take p (by omega)) (by omega) (by omega) ?_; intro v6 w6 hown6 hx6; rw [Nat.zero_add, List.nil_append] at hown6; have HO6 := qh hown6; have HX6 := qh hx6; clear hown6 hx6)
   | fail)
  by_cases h16 : 16 < m
  ·have h16i : (16 : Int) < ((m : Nat) : Int) := by omega
   have hhal : S6.halves (pg.take at0 ++ pr :: pg.drop ((at0 + 1))) = [(pg.take at0 ++ pr :: pg.drop ((at0 + 1))).take 8, (pg.take at0 ++ pr :: pg.drop ((at0 + 1))).drop 8] := by unfold S6.halves; rw [if_pos (by omega)]
   clear hpl3
   skip
   have hc8 : ¬ c3 = 8 := by omega
   have hc8i : (8 : Int) <= (c3 : Int) := by omega
   have hc8j : (8 : Int) <= (m : Int) := by omega
   go_upto_region 11 with fail
   have hHX := Ext.of_drew w6
   have hHeld := hHX
   refine wp_region_C (fun w' => Ext w6 w') 5 (by kernel_rfl) ?_
   (refine aP (i := 0) (oi := ⟨some 53, _, _, _, _, _⟩) (v := ?_) rfl ?_ hHeld ?_; rotate_left; (focus (intro w; go_simp; first | done | with_reducible rfl)); try simp only [Act.put, zB, zC, zD])
   (refine aC [2, 5] (i := 1) (oi := ⟨some 54, _, _, _, _, _⟩) (v := ?_) rfl ?_ hHeld ?_; rotate_left; (focus (intro w hSw; (skip); go_simp; first | done | with_reducible rfl)); try simp only [Act.put, zB, zC, zD])
   (refine aC [5] (i := 2) (oi := ⟨some 55, _, _, _, _, _⟩) (v := ?_) rfl ?_ hHeld ?_; rotate_left; (focus (intro w hSw; (skip); go_simp; first | done | with_reducible rfl)); try simp only [Act.put, zB, zC, zD])
   (refine aC [4, 5] (i := 3) (oi := ⟨some 56, _, _, _, _, _⟩) (v := ?_) rfl ?_ hHeld ?_; rotate_left; (focus (intro w hSw; (skip); go_simp; first | done | with_reducible rfl)); try simp only [Act.put, zB, zC, zD])
   (refine aC [5] (i := 4) (oi := ⟨some 57, _, _, _, _, _⟩) (v := ?_) rfl ?_ hHeld ?_; rotate_left; (focus (intro w hSw; (skip); go_simp; first | done | with_reducible rfl)); try simp only [Act.put, zB, zC, zD])
   refine wpAnyC_c (oi := ⟨some 58, _, _, _, _, _⟩) rfl (by kernel_rfl) (fun K hK => ?_)
   rw [if_pos (by rfl)]
   refine wp_buildSlice rfl (by simp [Act.eval]) (run_build2 _ (.slice (some ⟨g3, 0, none⟩) 8 c3) (.slice (some ⟨g3, 24, none⟩) (m - 8) (c3 - 8)) rfl rfl) ?_
   refine hK.out _ _ ?_
   clear hK K
   try simp only [Act.put, zB, zC, zD]
   refine wpAny_one (i := 6) (oi := ⟨some 59, _, _, _, _, _⟩) rfl (by kernel_rfl) (fun K hK => ?_)
   rw [if_pos (by rfl)]
   refine wp_append_own _ _ _ 85 rfl w5.heap.size 68 ipg zpg 1 24 el_page.und hip hzp hp1 hp2 hp3 (by decide) v6 p _ (by rfl) (((Ext.of_drew w6).trans (Ext.of_alloc _ _)).keptOwn HO6.out) ⟨w6.drew.heap.size, 0, none⟩ 2 2 [.slice (some ⟨g3, 0, none⟩) 8 c3, .slice (some ⟨g3, 24, none⟩) (m - 8) (c3 - 8)] (by rfl) rfl (fun j u hj => by rw [Addr.add_lit, World.cell?_alloc_at _ _ _ _ rfl, Nat.zero_add]; simpa using hj) (by simp [Value.oneCell']) (by unfold maxLen; omega) (by omega) (HX6.out.trans ((Ext.of_drew w6).trans (Ext.of_alloc _ _))).size ?_
   intro v8 w8 hown8 hg8 _
   have HX8 := qh (grown_ext (HX6.out.trans ((Ext.of_drew w6).trans (Ext.of_alloc _ _))) (((Ext.of_drew w6).trans (Ext.of_alloc _ _)).keptOwn HO6.out) hg8)
   have HXF := qh (HX5.out.trans HX8.out)
   have HO8 := qh hown8
   clear hown8 hg8 HO6 HX6
   refine hK.out _ _ ?_
   clear hK K
   try simp only [Act.put, zB, zC, zD]
   (refine aT (i := 7) (oi := ⟨some 9, _, _, _, _, _⟩) (v := ?_) rfl ?_ ?_; rotate_left; (focus (intro w; go_simp; first | done | with_reducible rfl)); try simp only [Act.put, zB, zC, zD])
   refine wpAny_done (by kernel_rfl) ?_ _
   clear hHX hHeld
   go_upto_region 14 with (first
    | ((with_reducible show wpList _ _ _ (⟨some 68, _, _, _, _, _⟩ :: _) _ _); refine wpl_slice_from el_page _ rfl _ _ rfl (.slice (some ⟨b, off, none⟩) n cap) n vs (by rfl) (HRN.out.ext HXF.out) (p + 1) (by rfl) (by omega) ?_; intro y9 hr9; have HR9 := qh hr9; clear hr9)
    | ((with_reducible show wpList _ _ _ (⟨some 69, _, _, _, _, _⟩ :: _) _ _); refine wpl_app w5 el_page _ HX8.out rfl _ _ rfl v8 (p + 2) _ (by rfl) HO8.out y9 (n - (p + 1)) _ (by rfl) HR9.out (by omega) (by omega) ?_; intro v9 w9 hown9 hx9; have HO9 := qh hown9; have HX9 := qh hx9; clear hown9 hx9 HR9 HO8 HX8)
    | fail)
   go_ret
   have hpgs := ((HPS.out.ext (HX5.out.trans HX9.out)).mono (fun k hk => (.inl hk : New X w w9 k)))
   refine ⟨_, rfl, ?_, HX5.out.trans HX9.out⟩
   refine IdxIn.of_own (X := New X w w9) HO9.out ?_ (own_new HO9.out HX5.out.size)
   rw [Nat.mul_one, Nat.mul_one, show at0 + S6.one true = (at0 + 1) from rfl, hhal]
   have hfin := ((hpgs.take p).app ((PgsIn.one (((HP5.out.ext HX9.out).mono (New.mono HX9.out.size)).take 8 (by omega))).app (PgsIn.one (((HP5.out.ext HX9.out).mono (New.mono HX9.out.size)).drop 8 (by omega))))).app (hpgs.drop (p + 1))
   first | exact hfin | (rw [List.append_assoc (x.take p)] at hfin; exact hfin)
  ·have h16i : ¬ (16 : Int) < ((m : Nat) : Int) := by omega
   have h16d : decide (16 < m) = false := decide_eq_false h16
   have hhal : S6.halves (pg.take at0 ++ pr :: pg.drop ((at0 + 1))) = [pg.take at0 ++ pr :: pg.drop ((at0 + 1))] := by unfold S6.halves; rw [if_neg (by omega)]
   clear hpl3
   skip
   go_upto_region 13 with (first
    | ((with_reducible show wpList _ _ _ (⟨some 62, _, _, _, _, _⟩ :: _) _ _); refine wpl_build1 el_page _ rfl _ rfl _ rfl (by rfl) ?_)
    | ((with_reducible show wpList _ _ _ (⟨some 63, _, _, _, _, _⟩ :: _) _ _); refine wpl_app w5 el_page _ (HX6.out.trans (Ext.of_alloc w6 _)) rfl _ _ rfl v6 p _ (by rfl) ((Ext.of_alloc w6 _).keptOwn HO6.out) (.slice (some ⟨w6.heap.size, 0, none⟩) 1 1) 1 [.slice (some ⟨g3, 0, none⟩) m c3] (by rfl) (ReadsN.row 1 w6 [.slice (some ⟨g3, 0, none⟩) m c3] _ 1 rfl (by unfold maxLen; omega) (by simp [Value.oneCell'])) (by omega) (by omega) ?_; intro v8 w8 hown8 hx8; have HO8 := qh hown8; have HX8 := qh hx8; have HXF := qh (HX5.out.trans hx8); clear hown8 hx8 HO6 HX6)
    | fail)
   go_upto_region 14 with (first
    | ((with_reducible show wpList _ _ _ (⟨some 68, _, _, _, _, _⟩ :: _) _ _); refine wpl_slice_from el_page _ rfl _ _ rfl (.slice (some ⟨b, off, none⟩) n cap) n vs (by rfl) (HRN.out.ext HXF.out) (p + 1) (by rfl) (by omega) ?_; intro y9 hr9; have HR9 := qh hr9; clear hr9)
    | ((with_reducible show wpList _ _ _ (⟨some 69, _, _, _, _, _⟩ :: _) _ _); refine wpl_app w5 el_page _ HX8.out rfl _ _ rfl v8 (p + 1) _ (by rfl) HO8.out y9 (n - (p + 1)) _ (by rfl) HR9.out (by omega) (by omega) ?_; intro v9 w9 hown9 hx9; have HO9 := qh hown9; have HX9 := qh hx9; clear hown9 hx9 HR9 HO8 HX8)
    | fail)
   go_ret
   have hpgs := ((HPS.out.ext (HX5.out.trans HX9.out)).mono (fun k hk => (.inl hk : New X w w9 k)))
   refine ⟨_, rfl, ?_, HX5.out.trans HX9.out⟩
   refine IdxIn.of_own (X := New X w w9) HO9.out ?_ (own_new HO9.out HX5.out.size)
   rw [Nat.mul_one, Nat.mul_one, show at0 + S6.one true = (at0 + 1) from rfl, hhal]
   have hfin := ((hpgs.take p).app (PgsIn.one ((HP5.out.ext HX9.out).mono (New.mono HX9.out.size)))).app (hpgs.drop (p + 1))
   first | exact hfin | (rw [List.append_assoc (x.take p)] at hfin; exact hfin)
theorem xput_any (w : World) (X : Nat -> Prop) (xv : Value) (x : S6.Idx) (pr : S6.Pr) (u : Value) (h : IdxIn w X xv x) (ho : S6.IOk x) (hl : x.length <= 1000000) (hl2 : ∀ p ∈ x, p.length <= 1000000) (hu : Bs w u pr.val) (huX : ∀ k, u.ownBlock = some k -> X k) :
 Calls Tryz.prog 65 #[xv, prv pr u] w fun e w' => ∃ v', e = .returned v' /\ IdxIn w' (New X w w') v' (S6.put x pr) /\ Ext w w' := by
 by_cases h0 : x = []
 ·subst h0
  exact put_empty w X xv pr u h hu huX
 ·exact put_some w X xv x pr u h ho hl hl2 hu huX h0
end Go.Proofs.YtnjfioikpajhlaaGreat
namespace Go.Proofs.YtnjfioikpajhlaaGreat
open Go.RowKit Go.Shelf
theorem wp_app (W0 : World) {t e : TypeId} {size bytes : Nat} (E : Elem t e size bytes) {o : Oper} {a : Act} {K : Act -> World -> Prop} {Q : Exit -> Act -> World -> Prop} (w : World) (hW : Ext W0 w) (s x : Operand) (ho : o.op = .call { callee := .builtin .append, args := #[s, x], argTypes := #[t, t] })
 (v : Value) (n : Nat) (xs : List Value) (hs : a.eval s = v) (hown : w.ownsRow W0.heap.size e size v n xs) (y : Value) (m : Nat) (ys : List Value) (hx : a.eval x = y) (hr : ReadsN size w y m ys) (hb : (n + m) * bytes <= 1000000000000)
 (hn : n + m <= 1000000000000) (h : ∀ v' w', w'.ownsRow W0.heap.size e size v' (n + m) (xs ++ ys) -> Ext W0 w' -> K (a.put o.dst v') w') : o.wp Tryz.prog a w K Q := by
 obtain ⟨i, z, hi, hz, h1, h2, h3⟩ := E.info
 obtain ⟨b, cap, rfl, g1, g2, g3, g4, g5, g6⟩ := hr
 cases b with
 | none =>
  obtain rfl : cap = 0 := g4 rfl
  obtain rfl : m = 0 := by omega
  obtain rfl : ys = [] := List.eq_nil_of_length_eq_zero (by rw [g1, Nat.zero_mul])
  have hrun := run_append_owned_none (P := Tryz.prog) (w := w) W0.heap.size t o.type e i size E.und hi v n xs hown
  unfold Oper.wp
  simp [execOp, ho, resolve, invoke, builtin, hs, hx, hrun, Result.andThen]
  exact h v w (by simpa using hown) hW
 | some ad =>
  refine wp_append_own w s x t ho W0.heap.size e i z size bytes E.und hi hz h1 h2 h3 E.pos v n xs hs hown ad m cap ys hx g1 ?_ g5 (by unfold maxLen; omega) (by omega) hW.size (fun v' w' h4 h5 _ => h v' w' h4 (grown_ext hW hown h5))
  intro j u hj
  rcases g6 with rfl | ⟨b, off, hb, hc⟩
  ·rw [Nat.zero_mul] at g1; rw [List.eq_nil_of_length_eq_zero g1] at hj; cases hj
  ·obtain rfl := Option.some.inj hb
   rw [Addr.add_lit]; exact hc j u hj
theorem xdrop_any (w : World) (X : Nat -> Prop) (xv : Value) (x : S6.Idx) (key : List UInt8) (h : IdxIn w X xv x) (ho : S6.IOk x) (hl : x.length <= 1000000) (hl2 : ∀ p ∈ x, p.length <= 1000000) :
 Calls Tryz.prog 64 #[xv, strV key] w fun e w' => ∃ v', e = .returned v' /\ IdxIn w' (New X w w') v' (S6.drp x key) /\ Ext w w' := by
 have HF := qh (find_any w X xv x key h ho hl hl2)
 by_cases hhas : (S6.find x key).2.2 = true
 ·have hdrp : S6.drp x key = x.take (S6.pageNo x key) ++ (if 0 < (S6.pgDrop (S6.pageAt x key) key).length then [S6.pgDrop (S6.pageAt x key) key] else []) ++ x.drop (S6.pageNo x key + 1) := by unfold S6.drp; rw [if_pos hhas]
  obtain ⟨hp, hh, he, hfd, _, _⟩ := (S6.look_find ho key).1 hhas
  rw [hfd] at HF
  rw [hdrp]
  clear hdrp hfd hhas
  rw [he] at HF hh ⊢
  clear he
  unfold S6.pgDrop
  obtain ⟨vs, hrd, hvl, hvX, hpg⟩ := h
  have hpv : S6.pageNo x key < vs.length := by rw [hvl]; exact hp
  obtain ⟨us, hus, hpr, hpX⟩ := hpg _ hp hpv
  have hpl : (x[S6.pageNo x key]).length <= 1000000 := hl2 _ (List.getElem_mem _)
  generalize S6.atNo x[S6.pageNo x key] key = at0 at *
  have HPS : Hid (PgsIn w X vs x) := ⟨hvl, fun i ps v h1 h2 => by
   obtain ⟨g1, rfl⟩ := List.getElem?_eq_some_iff.1 h1
   obtain ⟨g2, rfl⟩ := List.getElem?_eq_some_iff.1 h2
   exact hpg i g1 g2⟩
  have HRD := qh hrd
  clear hpg hl2 ho hvX hpX
  obtain ⟨b, off, cap, rfl, hcap, hcell⟩ : ∃ b off cap, xv = .slice (some ⟨b, off, none⟩) x.length cap /\ x.length <= cap /\ w.cell? ⟨b, off + S6.pageNo x key, none⟩ = some vs[S6.pageNo x key] := by
   obtain ⟨a, cap, hv, g1, _, _, _, g2⟩ := hrd
   rcases g2 with rfl | ⟨b, off, rfl, hc⟩
   ·simp at hpv
   ·exact ⟨b, off, cap, by rw [<- hvl]; exact hv, by omega, hc _ _ (List.getElem?_eq_getElem hpv)⟩
  have hpp : S6.pageNo x key < x.length := hp
  generalize hpq : x[S6.pageNo x key] = pg at *
  generalize hvq : vs[S6.pageNo x key] = pv at *
  generalize S6.pageNo x key = p at *
  have hul : us.length = pg.length := hus.1
  obtain ⟨b2, off2, cap2, rfl, hca2⟩ : ∃ b2 off2 cap2, pv = .slice (some ⟨b2, off2, none⟩) pg.length cap2 /\ pg.length <= cap2 := by
   obtain ⟨a2, cap2, hv, _, g1, _, _, _, g2⟩ := hpr
   rcases g2 with g2 | ⟨b2, off2, rfl, _⟩
   ·omega
   ·exact ⟨b2, off2, cap2, hv, g1⟩
  have HPR := qh hpr
  have HUS := qh hus
  have HRN := qh HRD.out.toN
  rw [hvl] at HRN
  have hpi : (p : Int) < (x.length : Int) := by omega
  clear hpr hus hrd hpq hvq
  generalize hn : x.length = n at *
  generalize hm : pg.length = m at *
  have hati : (at0 : Int) <= (cap2 : Int) := by omega
  have hat1i : (at0 : Int) + 1 <= (m : Int) := by omega
  have hcaps : (m : Int) <= (cap2 : Int) := by omega
  unfold findV strV at *
  go_enter Tryz.func64, Tryz.ntmps64
  go_wp2_with fail
  refine HF.out.mono ?_
  clear HF
  rintro e w2 ⟨rfl, hx2⟩
  have HX2 := qh hx2
  have hcell2 := hx2.cell hcell
  clear hcell hx2
  dsimp only
  go_upto_region 4 with fail
  have hwr : IntKind.i64.wrap ((at0 : Int) + 1) = (at0 : Int) + 1 := by rw [IntKind.wrap_i64]; omega
  have hng : ¬ ((at0 : Int) + 1 < 0) := by omega
  have htn : ((at0 : Int) + 1).toNat = at0 + 1 := by omega
  have hHX := Ext.of_drew w2
  have hHeld := hHX
  refine wp_region_C (fun w' => Ext w2 w') 14 (by kernel_rfl) ?_
  (refine aC [2, 3, 5, 6, 14] (i := 0) (oi := ⟨some 20, _, _, _, _, _⟩) (v := ?_) rfl ?_ hHeld ?_; rotate_left; (focus (intro w hSw; (skip); go_simp; first | done | with_reducible rfl)); try simp only [Act.put, zB, zC, zD])
  (refine aC [2, 3, 5, 6, 14] (i := 1) (oi := ⟨some 21, _, _, _, _, _⟩) (v := ?_) rfl ?_ hHeld ?_; rotate_left; (focus (intro w hSw; (skip); go_simp; first | done | with_reducible rfl)); try simp only [Act.put, zB, zC, zD])
  (refine aC [3, 5, 6, 14] (i := 2) (oi := ⟨some 22, _, _, _, _, _⟩) (v := ?_) rfl ?_ hHeld ?_; rotate_left; (focus (intro w hSw; (skip); go_simp; first | done | with_reducible rfl)); try simp only [Act.put, zB, zC, zD])
  (refine aC [5, 6, 14] (i := 3) (oi := ⟨some 23, _, _, _, _, _⟩) (v := ?_) rfl ?_ hHeld ?_; rotate_left; (focus (intro w hSw; ((have q := hSw.cell hcell2)); go_simp; first | done | with_reducible rfl)); try simp only [Act.put, zB, zC, zD])
  (refine aC [5, 6, 14] (i := 4) (oi := ⟨some 24, _, _, _, _, _⟩) (v := ?_) rfl ?_ hHeld ?_; rotate_left; (focus (intro w hSw; (skip); go_simp; first | done | with_reducible rfl)); try simp only [Act.put, zB, zC, zD])
  (refine aC [6, 14] (i := 5) (oi := ⟨some 25, _, _, _, _, _⟩) (v := ?_) rfl ?_ hHeld ?_; rotate_left; (focus (intro w hSw; (skip); go_simp; first | done | with_reducible rfl)); try simp only [Act.put, zB, zC, zD])
  (refine aC [9, 10, 13, 14] (i := 7) (oi := ⟨some 27, _, _, _, _, _⟩) (v := ?_) rfl ?_ hHeld ?_; rotate_left; (focus (intro w hSw; (skip); go_simp; first | done | with_reducible rfl)); try simp only [Act.put, zB, zC, zD])
  (refine aC [9, 10, 13, 14] (i := 8) (oi := ⟨some 28, _, _, _, _, _⟩) (v := ?_) rfl ?_ hHeld ?_; rotate_left; (focus (intro w hSw; (skip); go_simp; first | done | with_reducible rfl)); try simp only [Act.put, zB, zC, zD])
  (refine aC [10, 13, 14] (i := 9) (oi := ⟨some 29, _, _, _, _, _⟩) (v := ?_) rfl ?_ hHeld ?_; rotate_left; (focus (intro w hSw; (skip); go_simp; first | done | with_reducible rfl)); try simp only [Act.put, zB, zC, zD])
  (refine aC [13, 14] (i := 10) (oi := ⟨some 30, _, _, _, _, _⟩) (v := ?_) rfl ?_ hHeld ?_; rotate_left; (focus (intro w hSw; ((have q := hSw.cell hcell2)); go_simp; first | done | with_reducible rfl)); try simp only [Act.put, zB, zC, zD])
  (refine aC [12, 13, 14] (i := 11) (oi := ⟨some 31, _, _, _, _, _⟩) (v := ?_) rfl ?_ hHeld ?_; rotate_left; (focus (intro w hSw; (skip); go_simp; first | done | with_reducible rfl)); try simp only [Act.put, zB, zC, zD])
  (refine aC [13, 14] (i := 12) (oi := ⟨some 32, _, _, _, _, _⟩) (v := ?_) rfl ?_ hHeld ?_; rotate_left; (focus (intro w hSw; (skip); go_simp; first | done | with_reducible rfl)); try simp only [Act.put, zB, zC, zD])
  (refine aC [14] (i := 13) (oi := ⟨some 33, _, _, _, _, _⟩) (v := Go.sliced (some ⟨b2, off2, none⟩) (at0 + 1) m cap2 3) rfl ?_ hHeld ?_; (focus (intro w hSw; (skip); go_simp; first | done | with_reducible rfl | (intro hbad; exact absurd hbad hng))); try simp only [Act.put, zB, zC, zD])
  refine wpAnyC_one (i := 6) (oi := ⟨some 26, _, _, _, _, _⟩) rfl (by kernel_rfl) (by decide) (fun K hK => ?_)
  rw [if_pos (by rfl)]
  refine wp_app w2 el_pair _ ?_ _ _ rfl (.slice none 0 0) 0 [] rfl (World.ownsRow_nil _ _ _ _) (.slice (some ⟨b2, off2, none⟩) at0 cap2) at0 _ (by rfl) ((HPR.out.ext (HX2.out.trans hHeld)).take at0 (by omega)) (by omega) (by omega) ?_
  ·exact hHeld
  intro v1 w3 hown3 hx3
  rw [Nat.zero_add, List.nil_append] at hown3
  have HO3 := qh hown3
  have hHeld2 := hx3
  clear hown3 hx3 hHeld
  have hHeld := hHeld2
  clear hHeld2
  refine hK.out _ _ hHeld ?_
  clear hK K
  try simp only [Act.put, zB, zC, zD]
  refine wpAnyC_c (oi := ⟨some 34, _, _, _, _, _⟩) rfl (by kernel_rfl) (fun K hK => ?_)
  rw [if_pos (by rfl)]
  refine wp_app w2 el_pair _ hHeld _ _ rfl v1 at0 ((prcs pg us).take (at0 * 3)) (by rfl) HO3.out (Go.sliced (some ⟨b2, off2, none⟩) (at0 + 1) m cap2 3) (m - (at0 + 1)) ((prcs pg us).drop ((at0 + 1) * 3)) (by rfl) (ReadsN.sliced (HPR.out.ext (HX2.out.trans hHeld)) (at0 + 1) (by omega)) (by omega) (by omega) ?_
  intro v5 w5 hown5 hx5
  have HO5 := qh hown5
  have HX5 := qh (HX2.out.trans hx5)
  clear hown5 HO3
  refine hK.out _ _ ?_
  clear hK K
  try simp only [Act.put, zB, zC, zD]
  (refine aT (i := 15) (oi := ⟨some 8, _, _, _, _, _⟩) (v := ?_) rfl ?_ ?_; rotate_left; (focus (intro w; go_simp; first | done | with_reducible rfl)); try simp only [Act.put, zB, zC, zD])
  refine wpAny_done (by kernel_rfl) ?_ _
  clear hHX hHeld hcell2 hx5
  have HP5 : Hid (PageIn w5 (New X w w5) v5 (pg.take at0 ++ pg.drop (at0 + 1))) := by
   have h1 := (HUS.out.ext HX5.out).mono (fun k hk => (.inl hk : New X w w5 k))
   have h2 := HO5.out
   rw [prcs_take pg us at0 (by omega), prcs_drop pg us (at0 + 1) (by omega), <- prcs_append _ _ _ _ (by simp; omega)] at h2
   exact PageIn.of_own h2 (by simp; omega) ((h1.take at0).app (h1.drop (at0 + 1))) (own_new h2 HX2.out.size)
  have hpl3 : (pg.take at0 ++ pg.drop (at0 + 1)).length = at0 + (m - (at0 + 1)) := by simp; omega
  obtain ⟨a5, c5, rfl⟩ : ∃ a5 c5, v5 = .slice a5 (at0 + (m - (at0 + 1))) c5 := by
   obtain ⟨_, a5, c5, h5, _⟩ := HP5.out.shape
   rw [hpl3] at h5
   exact ⟨a5, c5, h5⟩
  clear HO5
  generalize hLL : at0 + (m - (at0 + 1)) = L at *
  go_upto_region 6 with (first
   | ((with_reducible show wpList _ _ _ (⟨some 38, _, _, _, _, _⟩ :: _) _ _); refine wpl_app w5 el_page _ (Ext.refl w5) rfl _ _ rfl (.slice none 0 0) 0 [] rfl (World.ownsRow_nil _ _ _ _) (.slice (some ⟨b, off, none⟩) p cap) p _ (by rfl) ((HRN.out.ext HX5.out).take p (by omega)) (by omega) (by omega) ?_; intro v6 w6 hown6 hx6; rw [Nat.zero_add, List.nil_append] at hown6; have HO6 := qh hown6; have HX6 := qh hx6; clear hown6 hx6)
   | fail)
  by_cases h16 : 0 < L
  ·have h16i : (0 : Int) < (L : Int) := by omega
   have hmid : (if 0 < (pg.take at0 ++ pg.drop (at0 + 1)).length then [pg.take at0 ++ pg.drop (at0 + 1)] else []) = [pg.take at0 ++ pg.drop (at0 + 1)] := if_pos (by omega)
   clear hpl3
   go_upto_region 8 with (first
    | ((with_reducible show wpList _ _ _ (⟨some 44, _, _, _, _, _⟩ :: _) _ _); refine wpl_build1 el_page _ rfl _ rfl _ rfl (by rfl) ?_)
    | ((with_reducible show wpList _ _ _ (⟨some 45, _, _, _, _, _⟩ :: _) _ _); refine wpl_app w5 el_page _ (HX6.out.trans (Ext.of_alloc w6 _)) rfl _ _ rfl v6 p _ (by rfl) ((Ext.of_alloc w6 _).keptOwn HO6.out) (.slice (some ⟨w6.heap.size, 0, none⟩) 1 1) 1 [.slice a5 L c5] (by rfl) (ReadsN.row 1 w6 [.slice a5 L c5] _ 1 rfl (by unfold maxLen; omega) (by simp [Value.oneCell'])) (by omega) (by omega) ?_; intro v8 w8 hown8 hx8; have HO8 := qh hown8; have HX8 := qh hx8; have HXF := qh (HX5.out.trans hx8); clear hown8 hx8 HO6 HX6)
    | fail)
   go_upto_region 9 with (first
    | ((with_reducible show wpList _ _ _ (⟨some 50, _, _, _, _, _⟩ :: _) _ _); refine wpl_slice_from el_page _ rfl _ _ rfl (.slice (some ⟨b, off, none⟩) n cap) n vs (by rfl) (HRN.out.ext HXF.out) (p + 1) (by rfl) (by omega) ?_; intro y9 hr9; have HR9 := qh hr9; clear hr9)
    | ((with_reducible show wpList _ _ _ (⟨some 51, _, _, _, _, _⟩ :: _) _ _); refine wpl_app w5 el_page _ HX8.out rfl _ _ rfl v8 (p + 1) _ (by rfl) HO8.out y9 (n - (p + 1)) _ (by rfl) HR9.out (by omega) (by omega) ?_; intro v9 w9 hown9 hx9; have HO9 := qh hown9; have HX9 := qh hx9; clear hown9 hx9 HR9 HO8 HX8)
    | fail)
   all_goals
    go_ret
    have hpgs := ((HPS.out.ext (HX5.out.trans HX9.out)).mono (fun k hk => (.inl hk : New X w w9 k)))
    refine ⟨_, rfl, ?_, HX5.out.trans HX9.out⟩
    refine IdxIn.of_own (X := New X w w9) HO9.out ?_ (own_new HO9.out HX5.out.size)
    rw [Nat.mul_one, Nat.mul_one]
    first | rw [hmid] | skip
    have hfin := ((hpgs.take p).app (PgsIn.one ((HP5.out.ext HX9.out).mono (New.mono HX9.out.size)))).app (hpgs.drop (p + 1))
    first | exact hfin | (rw [List.append_assoc (x.take p)] at hfin; exact hfin)
  ·obtain rfl : L = 0 := by omega
   have hmid : (if 0 < (pg.take at0 ++ pg.drop (at0 + 1)).length then [pg.take at0 ++ pg.drop (at0 + 1)] else []) = [] := if_neg (by omega)
   clear hpl3
   have HO8 := HO6
   have HX8 := HX6
   have HXF := qh (HX5.out.trans HX6.out)
   clear HO6 HX6
   obtain ⟨v8, hv8⟩ : ∃ v8, v8 = v6 := ⟨_, rfl⟩
   subst hv8
   go_upto_region 9 with (first
    | ((with_reducible show wpList _ _ _ (⟨some 50, _, _, _, _, _⟩ :: _) _ _); refine wpl_slice_from el_page _ rfl _ _ rfl (.slice (some ⟨b, off, none⟩) n cap) n vs (by rfl) (HRN.out.ext HXF.out) (p + 1) (by rfl) (by omega) ?_; intro y9 hr9; have HR9 := qh hr9; clear hr9)
    | ((with_reducible show wpList _ _ _ (⟨some 51, _, _, _, _, _⟩ :: _) _ _); refine wpl_app w5 el_page _ HX8.out rfl _ _ rfl v8 p _ (by rfl) HO8.out y9 (n - (p + 1)) _ (by rfl) HR9.out (by omega) (by omega) ?_; intro v9 w9 hown9 hx9; have HO9 := qh hown9; have HX9 := qh hx9; clear hown9 hx9 HR9 HO8 HX8)
    | fail)
   all_goals
    go_ret
    have hpgs := ((HPS.out.ext (HX5.out.trans HX9.out)).mono (fun k hk => (.inl hk : New X w w9 k)))
    refine ⟨_, rfl, ?_, HX5.out.trans HX9.out⟩
    refine IdxIn.of_own (X := New X w w9) HO9.out ?_ (own_new HO9.out HX5.out.size)
    rw [Nat.mul_one, Nat.mul_one]
    first | rw [hmid] | skip
    first | (rw [List.append_nil]; exact (hpgs.take p).app (hpgs.drop (p + 1))) | exact (hpgs.take p).app (hpgs.drop (p + 1))
 ·have hf : (S6.find x key).2.2 = false := by simpa using hhas
  have hd : S6.drp x key = x := by unfold S6.drp; rw [if_neg hhas]
  rw [hd]
  have HI := qh h
  obtain ⟨_, a, cap, rfl, hca, hz⟩ := h.shape
  clear hz
  unfold findV at HF
  rw [hf] at HF
  clear h ho hl hl2 hhas hd hf
  generalize (S6.find x key).1 = f1 at *
  generalize (S6.find x key).2.1 = f2 at *
  generalize hn : x.length = n at *
  unfold strV at *
  go_enter Tryz.func64, Tryz.ntmps64
  go_wp2_with fail
  refine HF.out.mono ?_
  clear HF
  rintro e w2 ⟨rfl, hx2⟩
  have HX2 := qh hx2
  clear hx2
  dsimp only
  go_wp2
  go_ret
  exact ⟨_, rfl, (HI.out.ext HX2.out).mono (fun k hk => .inl hk), HX2.out⟩
end Go.Proofs.YtnjfioikpajhlaaGreat
