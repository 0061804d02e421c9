import Derived.Test.YtnjfioikpajhlaaGreatWalW
set_option maxRecDepth 100000
set_option maxHeartbeats 64000000
/- WalX for the store seat: what a crash leaves. -/
namespace Go.Proofs.YtnjfioikpajhlaaGreat
open Go.RowKit
namespace W5
def Leaves (d : D.Dsk) (P : List (List UInt8) -> Prop) (B : Nat) : Prop := 4 <= d.n /\ ∀ ks, D.Ok (D.restart d ks) -> P (list (D.restart d ks)) /\ Tb (D.restart d ks) B
theorem Leaves.of_live {d : D.Dsk} {g B : Nat} {recs : List (List UInt8)} (h : Live d g recs) (hB : g <= B) : Leaves d (fun l => l = recs) B :=
 ⟨h.n4, fun ks hok => ⟨(live_restart h ks).list hok, (live_restart h ks).tb.le hB⟩⟩
theorem Leaves.imp {d : D.Dsk} {P Q : List (List UInt8) -> Prop} {B : Nat} (h : Leaves d P B) (hPQ : ∀ l, P l -> Q l) : Leaves d Q B := ⟨h.1, fun ks hok => ⟨hPQ _ (h.2 ks hok).1, (h.2 ks hok).2⟩⟩
structure Rest (d : D.Dsk) (l : List (List UInt8)) (B : Nat) : Prop where
 n4 : 4 <= d.n
 wait : d.wait = []
 down : d.down = false
 lst : list d = l
 tb : Tb d B
theorem Leaves.rest {d : D.Dsk} {P : List (List UInt8) -> Prop} {B : Nat} (h : Leaves d P B) (ks : List Bool) (hok : D.Ok (D.restart d ks)) : ∃ l, P l /\ Rest (D.restart d ks) l B /\ (D.restart d ks).armed = false :=
 ⟨_, (h.2 ks hok).1, ⟨h.1, rfl, rfl, rfl, (h.2 ks hok).2⟩, rfl⟩
theorem list_same {d R : D.Dsk} (hn : R.n = d.n) (h : ∀ i : Nat, D.sector R (i : Int) = D.sector d (i : Int)) : list R = list d := by
 unfold W5.list
 rw [current_congr (h 0) (h 1)]
 split
 ·unfold read
  rw [area_same hn]
  exact readF_congr hn (fun j _ => h _) _ _ _
 ·rfl
theorem tb_same {d R : D.Dsk} {B : Nat} (hn : R.n = d.n) (h : ∀ i : Nat, D.sector R (i : Int) = D.sector d (i : Int)) (ht : Tb d B) : Tb R B := by
 intro i hi ht2
 rw [h] at ht2 ⊢
 exact ht i (by rw [<- hn]; exact hi) ht2
theorem rest_same {d R : D.Dsk} {l : List (List UInt8)} {B : Nat} (h : Rest d l B) (h1 : R.n = d.n) (h2 : R.wait = d.wait) (h3 : R.safe = d.safe) (h4 : R.down = d.down) : Rest R l B := by
 have hs : ∀ i : Nat, D.sector R (i : Int) = D.sector d (i : Int) := fun i => by unfold D.sector; rw [h2, h3]
 exact ⟨by rw [h1]; exact h.n4, h2.trans h.wait, h4.trans h.down, (list_same h1 hs).trans h.lst, tb_same h1 hs h.tb⟩
theorem Rest.fuse {d : D.Dsk} {l : List (List UInt8)} {B : Nat} (h : Rest d l B) (a : Int) : Rest (D.fuse d a) l B := by
 unfold D.fuse
 split
 ·exact h
 ·split
  ·exact h
  ·exact rest_same (R := { d with armed := true, after := a }) h rfl rfl rfl rfl
theorem Rest.open_ {d : D.Dsk} {l : List (List UInt8)} {B : Nat} (h : Rest d l B) (hok : D.Ok d) (hB : B + 2 < 4294967295) : ((open_ d).2 = 0 ∨ (open_ d).2 = 3) /\ Leaves (open_ d).1.d (fun l' => l' = l) (B + 2) /\ (d.armed = false -> (open_ d).2 = 0) /\ ((open_ d).2 = 0 -> (open_ d).1.recs = l) := by
 rcases open_law h.n4 h.down h.wait hok hB h.tb with ⟨a1, X, N, a2, a3, _, _, a4, a5, _⟩ | ⟨a1, a2, _, a3, a4⟩
 ·rw [h.lst] at a2 a3
  refine ⟨.inl a1, ?_, fun _ => a1, fun _ => by rw [a2]⟩
  rw [a2]
  exact Leaves.of_live a3 a4
 ·refine ⟨.inr a1, ⟨by rw [a3]; exact h.n4, fun ks hk => ?_⟩, fun h9 => ?_, fun h9 => ?_⟩
  ·obtain ⟨b1, b2, _⟩ := a4 ks hk
   exact ⟨b1.trans h.lst, b2⟩
  ·rw [h9] at a2; cases a2
  ·rw [a1] at h9; cases h9
end W5
end Go.Proofs.YtnjfioikpajhlaaGreat
