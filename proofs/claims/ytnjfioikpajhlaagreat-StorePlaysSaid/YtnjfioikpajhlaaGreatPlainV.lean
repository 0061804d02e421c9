import Derived.Test.YtnjfioikpajhlaaGreatMPlain
import Derived.Test.YtnjfioikpajhlaaGreatWalK
set_option maxRecDepth 100000
set_option maxHeartbeats 64000000
/- The store's plain law: records and images, a commit. -/
namespace Go.Proofs.YtnjfioikpajhlaaGreat
namespace S6
def playF : List (List UInt8) -> List Pr -> Nat -> Option (List Pr × Nat)
 | [], l, m => some (l, m)
 | b :: r, l, m => match readB b with
  | none => none
  | some (n, ws) => playF r (apl l n ws) (max m n)
def play (recs : List (List UInt8)) : Option (List Pr × Nat) := playF recs [] 0
def prB (p : Pr) : List UInt8 := batchB p.ver [⟨p.key, p.val, false, 0⟩]
def image (l : List Pr) (m : Nat) : List (List UInt8) := batchB m [] :: l.map prB
def needP (p : Pr) : Nat := W5.need (prB p).length
def needsL (l : List Pr) : Nat := 1 + wsum needP l
theorem playF_cons (b : List UInt8) (r : List (List UInt8)) (l : List Pr) (m : Nat) : playF (b :: r) l m = match readB b with
 | none => none
 | some (n, ws) => playF r (apl l n ws) (max m n) := rfl
theorem playF_append (a b : List (List UInt8)) (l : List Pr) (m : Nat) : playF (a ++ b) l m = match playF a l m with
 | none => none
 | some (l', m') => playF b l' m' := by
 induction a generalizing l m with
 | nil => rfl
 | cons x a ih =>
  rw [List.cons_append, playF_cons, playF_cons]
  cases readB x with
  | none => rfl
  | some y => exact ih _ _
theorem play_snoc {recs : List (List UInt8)} {l : List Pr} {m n : Nat} {b : List UInt8} {ws : List Wr} (h : play recs = some (l, m)) (hb : readB b = some (n, ws)) : play (recs ++ [b]) = some (apl l n ws, max m n) := by
 unfold play at *
 rw [playF_append, h]
 simp only [playF, hb]
theorem prB_read {m : Nat} {p : Pr} (h : POk m p) (hm : m <= lastN) : readB (prB p) = some (p.ver, [⟨p.key, p.val, false, 0⟩]) := by
 have := readB_back p.ver [⟨p.key, p.val, false, 0⟩] (Nat.le_trans h.ver hm) (by simp) (by intro x hx; rw [List.mem_singleton] at hx; subst hx; exact ⟨h.key0, h.key, h.val⟩)
 unfold prB
 simpa [strip] using this
theorem ins_end {l : List Pr} {p : Pr} (h : ∀ a ∈ l, a.key < p.key) : ins l p = l ++ [p] := by
 have := ins_parts (A := l) (M := []) (B := []) (p := p) h (fun a ha => by cases ha) (fun a ha => by cases ha)
 simpa using this
theorem playF_pairs (m : Nat) (hm : m <= lastN) : ∀ (l a : List Pr), Srt (a ++ l) -> (∀ p ∈ l, POk m p) -> playF (l.map prB) a m = some (a ++ l, m)
 | [], a, _, _ => by rw [List.map_nil, List.append_nil]; rfl
 | p :: l, a, h, hp => by
  rw [List.map_cons]
  unfold playF
  rw [prB_read (hp p List.mem_cons_self) hm]
  have h1 : ∀ x ∈ a, x.key < p.key := fun x hx => (List.pairwise_append.1 h).2.2 x hx p List.mem_cons_self
  have h2 : apl a p.ver [⟨p.key, p.val, false, 0⟩] = a ++ [p] := by
   show stepW p.ver a ⟨p.key, p.val, false, 0⟩ = _
   unfold stepW
   rw [if_neg (by simp)]
   exact ins_end h1
  have h3 : max m p.ver = m := Nat.max_eq_left (hp p List.mem_cons_self).ver
  have h4 := playF_pairs m hm l (a ++ [p]) (by rw [List.append_assoc]; exact h) (fun x hx => hp x (List.mem_cons_of_mem _ hx))
  rw [List.append_assoc] at h4
  simp only [h2, h3]
  exact h4
theorem play_image {l : List Pr} {m : Nat} (h : Srt l) (hp : ∀ p ∈ l, POk m p) (hm : m <= lastN) : play (image l m) = some (l, m) := by
 unfold play image playF
 rw [readB_back m [] hm (by simp) (fun x hx => by cases hx)]
 have h4 := playF_pairs m hm l [] h hp
 have h5 : max 0 m = m := Nat.max_eq_right (Nat.zero_le _)
 simp only [List.map_nil, h5]
 exact h4
theorem batch0_len (m : Nat) (hm : m <= lastN) : 1 <= (batchB m []).length /\ (batchB m []).length <= 11 := by
 have := W.vb_len10 m (by unfold lastN at hm; omega)
 unfold batchB wrsB
 rw [List.length_nil, W.vb_small 0 (by omega)]
 simp; omega
theorem need0 (m : Nat) (hm : m <= lastN) : W5.need (batchB m []).length = 1 := by
 have := batch0_len m hm
 unfold W5.need
 rw [if_neg (by omega)]
 omega
theorem used_image {l : List Pr} {m : Nat} (hm : m <= lastN) : W5.used (image l m) = needsL l := by
 unfold W5.used image needsL wsum
 rw [List.map_cons, List.sum_cons, need0 m hm, List.map_map]
 rfl
theorem len_le_needs (l : List Pr) : l.length + 1 <= needsL l := by
 unfold needsL wsum
 induction l with
 | nil => simp
 | cons p l ih =>
  have : 1 <= needP p := W5.need_pos _
  rw [List.map_cons, List.sum_cons, List.length_cons]; omega
theorem prB_len {m : Nat} {p : Pr} (h : POk m p) (hm : m <= lastN) : (prB p).length <= 4100 := by
 have h1 := wrB_len ⟨p.key, p.val, false, 0⟩ (by have := h.key; simp only; omega) (by have := h.val; simp only; omega)
 have h2 := W.vb_len10 p.ver (by have := h.ver; unfold lastN at hm; omega)
 have h3 := h.key
 have h4 := h.val
 simp only at h1
 unfold prB batchB
 rw [wrsB_cons, List.length_append, List.length_append, List.length_append]
 have h5 : (W.vb [(⟨p.key, p.val, false, 0⟩ : Wr)].length).length = 1 := by rw [List.length_singleton, W.vb_small 1 (by omega)]; rfl
 rw [h5]
 simp only [wrsB, List.flatMap_nil, List.length_nil]
 omega
theorem needP_le {m : Nat} {p : Pr} (h : POk m p) (hm : m <= lastN) : needP p <= 9 := by
 have := prB_len h hm
 unfold needP W5.need
 split <;> omega
theorem needsL_le {m : Nat} {l : List Pr} (h : ∀ p ∈ l, POk m p) (hm : m <= lastN) : needsL l <= 1 + l.length * 9 := by
 unfold needsL wsum
 induction l with
 | nil => simp
 | cons p l ih =>
  have h1 := needP_le (h p List.mem_cons_self) hm
  have h2 := ih (fun x hx => h x (List.mem_cons_of_mem _ hx))
  rw [List.map_cons, List.sum_cons, List.length_cons]; omega
theorem wsum_one (l : List Pr) : wsum (fun _ => 1) l = l.length := by
 unfold wsum
 induction l with
 | nil => rfl
 | cons a l ih => rw [List.map_cons, List.sum_cons, ih, List.length_cons]; omega
theorem ins_del_len {l : List Pr} (h : Srt l) (p : Pr) : (ins l p).length = (del l p.key).length + 1 := by
 have h1 := wsum_ins (fun _ => 1) h p
 have h2 := wsum_del (fun _ => 1) h p.key
 rw [wsum_one, wsum_one] at h1 h2
 omega
theorem ins_del_needs {l : List Pr} (h : Srt l) (p : Pr) : needsL (ins l p) = needsL (del l p.key) + needP p := by
 have h1 := wsum_ins needP h p
 have h2 := wsum_del needP h p.key
 unfold needsL
 omega
theorem del_none {l : List Pr} (h : Srt l) {k : Key} (hn : look l k = none) : del l k = l := by
 obtain ⟨A, M, B, rfl, hA, hM, hB, hl⟩ := mid_parts h k
 rw [look_parts hA hM hB] at hn
 rw [del_parts hA hM hB]
 cases M with
 | nil => rfl
 | cons m r => cases hn
theorem del_some {l : List Pr} (h : Srt l) {k : Key} {p : Pr} (hn : look l k = some p) : (del l k).length + 1 = l.length /\ needsL (del l k) + needP p = needsL l := by
 have h1 := wsum_del (fun _ => 1) h k
 have h2 := wsum_del needP h k
 rw [hn] at h1 h2
 rw [wsum_one, wsum_one] at h1
 simp only [Option.map_some, Option.getD_some] at h1 h2
 unfold needsL
 omega
structure St where
 L : W5.Lg
 l : List Pr
 num : Nat
 cl : Bool
def verOf (l : List Pr) (k : Key) : Nat := ((look l k).map (fun p => p.ver)).getD 0
def named (ws : List Wr) (k : Key) : Bool := ws.any (fun y => decide (y.key = k))
def wrongOne (l : List Pr) (pre : List Wr) (x : Wr) : Int :=
 if x.key = [] ∨ 32 < x.key.length ∨ 4000 < x.val.length then 2
 else if named pre x.key = true then 8
 else if x.ver ≠ verOf l x.key then 10
 else if x.drop = true /\ (look l x.key).isSome = false then 9 else 0
def wrongF (l : List Pr) : List Wr -> List Wr -> Int
 | _, [] => 0
 | pre, x :: r => if wrongOne l pre x ≠ 0 then wrongOne l pre x else wrongF l (pre ++ [x]) r
def wrongE (l : List Pr) (ws : List Wr) : Int := if 64 < ws.length then 2 else wrongF l [] ws
def areaS (s : St) : Nat := W5.area s.L.d
def logs (s : St) (ws : List Wr) : W5.Lg × Int :=
 if W5.need (batchB (s.num + 1) ws).length + W5.used s.L.recs <= areaS s then W5.append s.L (batchB (s.num + 1) ws) else W5.renew s.L (image (apl s.l (s.num + 1) ws) (s.num + 1))
def after (s : St) (ws : List Wr) : St × Nat × Int :=
 if (logs s ws).2 = 0 then (⟨(logs s ws).1, apl s.l (s.num + 1) ws, s.num + 1, false⟩, s.num + 1, 0)
 else (⟨(logs s ws).1, s.l, s.num, decide ((logs s ws).2 = 3)⟩, 0, (logs s ws).2)
def commit (s : St) (ws : List Wr) : St × Nat × Int :=
 if s.cl = true then (s, 0, 7)
 else if wrongE s.l ws ≠ 0 then (s, 0, wrongE s.l ws)
 else if ws = [] then (s, s.num, 0)
 else if s.num = lastN then (s, 0, 11)
 else if 8192 < (batchB (s.num + 1) ws).length then (s, 0, 2)
 else if areaS s < needsL (apl s.l (s.num + 1) ws) then (s, 0, 6)
 else after s ws
structure Good (l : List Pr) (ws : List Wr) : Prop where
 len : ws.length <= 64
 ok : ∀ x ∈ ws, WOk x
 two : ws.Pairwise (fun a b => a.key ≠ b.key)
 has : ∀ x ∈ ws, x.drop = true -> (look l x.key).isSome = true
 ver : ∀ x ∈ ws, x.ver = verOf l x.key
theorem wrongOne_zero {l : List Pr} {pre : List Wr} {x : Wr} (h : wrongOne l pre x = 0) : WOk x /\ named pre x.key = false /\ x.ver = verOf l x.key /\ (x.drop = true -> (look l x.key).isSome = true) := by
 unfold wrongOne at h
 split at h
 ·cases h
 ·rename_i h1
  split at h
  ·cases h
  ·rename_i h2
   split at h
   ·cases h
   ·rename_i h3
    split at h
    ·cases h
    ·rename_i h4
     refine ⟨⟨fun e => h1 (.inl e), by omega, by omega⟩, by simpa using h2, by simpa using h3, fun e => ?_⟩
     cases h5 : (look l x.key).isSome with
     | true => rfl
     | false => exact absurd ⟨e, h5⟩ h4
theorem wrongF_zero {l : List Pr} : ∀ (ws pre : List Wr), wrongF l pre ws = 0 -> (∀ x ∈ ws, WOk x /\ x.ver = verOf l x.key /\ (x.drop = true -> (look l x.key).isSome = true)) /\ (∀ x ∈ ws, named pre x.key = false) /\ ws.Pairwise (fun a b => a.key ≠ b.key)
 | [], pre, _ => ⟨(fun x hx => by cases hx), (fun x hx => by cases hx), List.Pairwise.nil⟩
 | x :: ws, pre, h => by
  unfold wrongF at h
  split at h
  ·rename_i h1; exact absurd h h1
  ·rename_i h1
   have h2 := wrongOne_zero (Classical.byContradiction h1)
   obtain ⟨h3, h4, h5⟩ := wrongF_zero ws (pre ++ [x]) h
   have h6 : ∀ y ∈ ws, named pre y.key = false /\ x.key ≠ y.key := fun y hy => by
    have := h4 y hy
    unfold named at this ⊢
    rw [List.any_append, Bool.or_eq_false_iff] at this
    exact ⟨this.1, by simpa using this.2⟩
   refine ⟨fun y hy => ?_, fun y hy => ?_, List.pairwise_cons.2 ⟨fun y hy => (h6 y hy).2, h5⟩⟩
   ·rcases List.mem_cons.1 hy with rfl | hy2
    ·exact ⟨h2.1, h2.2.2⟩
    ·exact h3 y hy2
   ·rcases List.mem_cons.1 hy with rfl | hy2
    ·exact h2.2.1
    ·exact (h6 y hy2).1
theorem wrong_good {l : List Pr} {ws : List Wr} (h : wrongE l ws = 0) : Good l ws := by
 unfold wrongE at h
 split at h
 ·cases h
 ·obtain ⟨h1, _, h3⟩ := wrongF_zero ws [] h
  exact ⟨by omega, fun x hx => (h1 x hx).1, h3, fun x hx => (h1 x hx).2.2, fun x hx => (h1 x hx).2.1⟩
theorem good_wrongF {l : List Pr} : ∀ (ws pre : List Wr), (∀ x ∈ ws, WOk x /\ x.ver = verOf l x.key /\ (x.drop = true -> (look l x.key).isSome = true)) -> (∀ x ∈ ws, named pre x.key = false) -> ws.Pairwise (fun a b => a.key ≠ b.key) -> wrongF l pre ws = 0
 | [], _, _, _, _ => rfl
 | x :: ws, pre, h1, h2, h3 => by
  obtain ⟨h4, h5⟩ := List.pairwise_cons.1 h3
  have h0 : wrongOne l pre x = 0 := by
   obtain ⟨a, b, c⟩ := h1 x List.mem_cons_self
   have d := h2 x List.mem_cons_self
   unfold wrongOne
   rw [if_neg, if_neg (by simp [d]), if_neg (by simp [b]), if_neg]
   ·rintro ⟨e, f⟩; rw [c e] at f; cases f
   ·rintro (e | e | e)
    ·exact a.key0 e
    ·have := a.key; omega
    ·have := a.val; omega
  unfold wrongF
  rw [if_neg (by simp [h0])]
  refine good_wrongF ws _ (fun y hy => h1 y (List.mem_cons_of_mem _ hy)) (fun y hy => ?_) h5
  have e1 := h2 y (List.mem_cons_of_mem _ hy)
  unfold named at e1 ⊢
  rw [List.any_append, e1]
  simpa using h4 y hy
theorem good_wrong {l : List Pr} {ws : List Wr} (h : Good l ws) : wrongE l ws = 0 := by
 unfold wrongE
 rw [if_neg (by have := h.len; omega)]
 exact good_wrongF ws [] (fun x hx => ⟨h.ok x hx, h.ver x hx, h.has x hx⟩) (fun x _ => rfl) h.two
end S6
end Go.Proofs.YtnjfioikpajhlaaGreat
