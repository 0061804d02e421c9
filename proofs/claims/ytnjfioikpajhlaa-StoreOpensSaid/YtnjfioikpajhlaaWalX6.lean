import Derived.Test.YtnjfioikpajhlaaWalW
/- WalX for the store seat: what a crash leaves. -/
namespace Go.Proofs.Ytnjfioikpajhlaa
open Go.RowKit

theorem wp_append_reads {P : Program} {o : Oper} {a : Act} {K : Act → World → Prop} {Q : Exit → Act → World → Prop} (w : World) (s x : Operand) (t : TypeId)
    (ho : o.op = .call { callee := .builtin .append, args := #[s, x], argTypes := #[t, t] })
    (base : Nat) (e : TypeId) (i : TypeInfo) (z : Value) (bytes : Nat) (ht : P.underlying t = some (.slice e)) (hi : P.info? e = some i) (hz : i.zero = some z)
    (hsize : i.size = 1) (hby : i.bytes = bytes) (hzs : z.cells.size = 1)
    (v : Value) (n : Nat) (xs : List Value) (hs : a.eval s = v) (hown : w.ownsRow base e 1 v n xs)
    (y : Value) (ys : List Value) (hx : a.eval x = y) (hr : Reads w y ys)
    (h63 : n + ys.length ≤ maxLen) (hbytes : (n + ys.length) * bytes ≤ 140737488355328) (hbase : base ≤ w.heap.size)
    (h : ∀ v' w', w'.ownsRow base e 1 v' (n + ys.length) (xs ++ ys) → w.grownBy w' v.ownBlock → K (a.put o.dst v') w') :
    Oper.wp P o a w K Q := by
  obtain ⟨ad, cap, rfl, h1, h2, hn, h3, h4⟩ := hr
  cases ad with
  | none =>
    obtain rfl := hn rfl
    obtain rfl : ys = [] := List.eq_nil_of_length_eq_zero (by omega)
    have hrun := run_append_owned_none (P := P) (w := w) base t o.type e i 1 ht hi v n xs hown
    unfold Oper.wp
    simp only [List.length_nil] at hx
    simp [execOp, ho, resolve, invoke, builtin, hs, hx, hrun, Result.andThen]
    exact h v w (by simpa using hown) (World.grownBy.refl _ _)
  | some ad =>
    refine wp_append_own w s x t ho base e i z 1 bytes ht hi hz hsize hby hzs (by omega) v n xs hs hown ad ys.length cap ys hx (by omega) ?_ h3 h63 hbytes hbase (fun v' w' a b _ => h v' w' a b)
    intro j u hj
    rcases h4 with rfl | ⟨b, off, hb, hc⟩
    · simp at hj
    · obtain rfl := Option.some.inj hb
      rw [Addr.add_lit]
      exact hc j u hj

namespace W5
/-- What every crash of a disk leaves: the records ls or others of which P holds. -/
def Leaves (d : D.Dsk) (P : List (List UInt8) → Prop) (B : Nat) : Prop := 4 ≤ d.n ∧ ∀ ks, D.Ok (D.restart d ks) → P (list (D.restart d ks)) ∧ Tb (D.restart d ks) B
theorem Leaves.of_live {d : D.Dsk} {g B : Nat} {recs : List (List UInt8)} (h : Live d g recs) (hB : g ≤ B) : Leaves d (fun l => l = recs) B :=
  ⟨h.n4, fun ks hok => ⟨(live_restart h ks).list hok, (live_restart h ks).tb.le hB⟩⟩
theorem Leaves.imp {d : D.Dsk} {P Q : List (List UInt8) → Prop} {B : Nat} (h : Leaves d P B) (hPQ : ∀ l, P l → Q l) : Leaves d Q B := ⟨h.1, fun ks hok => ⟨hPQ _ (h.2 ks hok).1, (h.2 ks hok).2⟩⟩
/-- A disk behind a crash: no write waits, the records are l. -/
structure Rest (d : D.Dsk) (l : List (List UInt8)) (B : Nat) : Prop where
  n4 : 4 ≤ d.n
  wait : d.wait = []
  down : d.down = false
  lst : list d = l
  tb : Tb d B
theorem Leaves.rest {d : D.Dsk} {P : List (List UInt8) → Prop} {B : Nat} (h : Leaves d P B) (ks : List Bool) (hok : D.Ok (D.restart d ks)) : ∃ l, P l ∧ Rest (D.restart d ks) l B ∧ (D.restart d ks).armed = false :=
  ⟨_, (h.2 ks hok).1, ⟨h.1, rfl, rfl, rfl, (h.2 ks hok).2⟩, rfl⟩
theorem restart_cut (d : D.Dsk) (ks : List Bool) : D.restart (D.cut d) ks = D.restart d ks := by cases d; rfl
theorem list_same {d R : D.Dsk} (hn : R.n = d.n) (h : ∀ i : Nat, D.sector R (i : Int) = D.sector d (i : Int)) : list R = list d := by
  unfold W5.list
  rw [current_congr (h 0) (h 1)]
  split
  · unfold read
    rw [area_same hn]
    exact readF_congr hn (fun j _ => h _) _ _ _
  · rfl
theorem tb_same {d R : D.Dsk} {B : Nat} (hn : R.n = d.n) (h : ∀ i : Nat, D.sector R (i : Int) = D.sector d (i : Int)) (ht : Tb d B) : Tb R B := by
  intro i hi ht2
  rw [h] at ht2 ⊢
  exact ht i (by rw [← hn]; exact hi) ht2
theorem rest_same {d R : D.Dsk} {l : List (List UInt8)} {B : Nat} (h : Rest d l B) (h1 : R.n = d.n) (h2 : R.wait = d.wait) (h3 : R.safe = d.safe) (h4 : R.down = d.down) : Rest R l B := by
  have hs : ∀ i : Nat, D.sector R (i : Int) = D.sector d (i : Int) := fun i => by unfold D.sector; rw [h2, h3]
  exact ⟨by rw [h1]; exact h.n4, h2.trans h.wait, h4.trans h.down, (list_same h1 hs).trans h.lst, tb_same h1 hs h.tb⟩
theorem Rest.fuse {d : D.Dsk} {l : List (List UInt8)} {B : Nat} (h : Rest d l B) (a : Int) : Rest (D.fuse d a) l B := by
  unfold D.fuse
  split
  · exact h
  · split
    · exact h
    · exact rest_same (R := { d with armed := true, after := a }) h rfl rfl rfl rfl
/-- An opening of such a disk, and every crash behind it. -/
theorem Rest.open_ {d : D.Dsk} {l : List (List UInt8)} {B : Nat} (h : Rest d l B) (hok : D.Ok d) (hB : B + 2 < 4294967295) : ((open_ d).2 = 0 ∨ (open_ d).2 = 3) ∧ Leaves (open_ d).1.d (fun l' => l' = l) (B + 2) ∧ (d.armed = false → (open_ d).2 = 0) ∧ ((open_ d).2 = 0 → (open_ d).1.recs = l) := by
  rcases open_law h.n4 h.down h.wait hok hB h.tb with ⟨a1, X, N, a2, a3, _, _, a4, a5, _⟩ | ⟨a1, a2, _, a3, a4⟩
  · rw [h.lst] at a2 a3
    refine ⟨.inl a1, ?_, fun _ => a1, fun _ => by rw [a2]⟩
    rw [a2]
    exact Leaves.of_live a3 a4
  · refine ⟨.inr a1, ⟨by rw [a3]; exact h.n4, fun ks hk => ?_⟩, fun h9 => ?_, fun h9 => ?_⟩
    · obtain ⟨b1, b2, _⟩ := a4 ks hk
      exact ⟨b1.trans h.lst, b2⟩
    · rw [h9] at a2; cases a2
    · rw [a1] at h9; cases h9
/-- A call of a live log: refused; done; or the power went off. -/
def Done (d : D.Dsk) (g : Nat) (recs aft : List (List UInt8)) (r : Lg × Int) : Prop :=
  (r.1 = ⟨d, g, recs, false⟩ ∧ (r.2 = 2 ∨ r.2 = 6)) ∨
  (r.2 = 0 ∧ r.1.recs = aft ∧ Leaves r.1.d (fun l => l = aft) (g + 1)) ∨
  (r.2 = 3 ∧ Leaves r.1.d (fun l => l = recs ∨ l = aft) (g + 1))
theorem done_append {d : D.Dsk} {g : Nat} {recs : List (List UInt8)} (h : Live d g recs) (b : List UInt8) : Done d g recs (recs ++ [b]) (append ⟨d, g, recs, false⟩ b) := by
  rcases append_law h b with ⟨q, q1⟩ | ⟨q0, X, q, q2, _⟩ | ⟨q1, _, X, q, q2, q3, q4⟩
  · exact .inl ⟨q, q1⟩
  · right; left
    rw [q]
    exact ⟨q0, rfl, Leaves.of_live q2 (Nat.le_succ _)⟩
  · right; right
    rw [q]
    refine ⟨q1, by simp only; rw [q3]; exact h.n4, fun ks hk => ?_⟩
    obtain ⟨a1, _, a3⟩ := q4 ks hk
    exact ⟨a1, a3.le (Nat.le_succ _)⟩
theorem done_renew {d : D.Dsk} {g : Nat} {recs : List (List UInt8)} (h : Live d g recs) (hok : D.Ok d) (hg : g < 4294967295) (ls : List (List UInt8)) : Done d g recs ls (renew ⟨d, g, recs, false⟩ ls) := by
  rcases renew_law h hok hg ls with ⟨q, q1⟩ | ⟨q0, X, q, q2, _⟩ | ⟨q1, _, X, q, q2, q3, q4⟩
  · exact .inl ⟨q, q1⟩
  · right; left
    rw [q]
    exact ⟨q0, rfl, Leaves.of_live q2 (Nat.le_refl _)⟩
  · right; right
    rw [q]
    refine ⟨q1, by simp only; rw [q3]; exact h.n4, fun ks hk => ?_⟩
    obtain ⟨a1, _, a3⟩ := q4 ks hk
    exact ⟨a1, a3⟩
end W5
end Go.Proofs.Ytnjfioikpajhlaa
