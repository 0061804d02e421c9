/- A script of calls that came in, opened: what it takes in memory bounds its slices. -/
import Derived.Test.YtmlancmcgcjodaaActs
import Derived.SizedLaws
namespace Go.Proofs.Ytmlancmcgcjodaa
open Go.RowKit Go.ChangeShapes Go.WideShapes Go.ChangeAt

section
variable {H : Type} {enc : TypeId × Value → H} {w : World} {base : Nat} {spare : Nat → Bool} {held : Bool}
theorem trod_slice_weight {P : Program} {t e : TypeId} {fuel : Nat} {v : Value} {x : DataW H × List MemPlace} {B : Nat} (ht : P.underlying t = some (.slice e)) (h : DataW.trod enc P w base spare held fuel t [v] = some x)
    (hw : ∀ m ∈ DataW.weights P t x.1, m ≤ B) : ∀ a n cap, v = .slice a n cap → n * P.bytesOf e ≤ B := by
  rcases DataW.trod_slice ht h with ⟨hcs, _⟩ | ⟨a, len, cap, elems, rest, n, _, hcs, hx, _, hl, hm, hlen, hel, _⟩
  · rintro a n cap rfl
    have h0 : n = 0 := by
      have h1 : Value.slice a n cap = .slice none 0 0 := by simpa using hcs
      exact (Value.slice.inj h1).2.1
    subst h0; simp
  · rintro a' n' cap' rfl
    have h1 : Value.slice a' n' cap' = .slice (some a) len cap := by simpa using hcs
    obtain ⟨_, rfl, _⟩ := Value.slice.inj h1
    have h2 := hw ((elems.length + rest.length) * P.bytesOf e) (by rw [hx]; simp [DataW.weights, ht])
    refine Nat.le_trans (Nat.mul_le_mul_right _ ?_) h2
    omega
theorem weights_all_mem {P : Program} {e : TypeId} : ∀ {ds : List (DataW H)} {d : DataW H}, d ∈ ds → ∀ m ∈ DataW.weights P e d, m ∈ DataW.weightsAll P e ds
  | x :: r, d, hd, m, hm => by
    simp only [DataW.weightsAll, List.mem_append]
    rcases List.mem_cons.1 hd with rfl | hd
    · exact .inl hm
    · exact .inr (weights_all_mem hd m hm)
theorem open_act_z {B : Nat} {fuel : Nat} {a : Addr} {cs : List Value} {y : DataW H × List MemPlace} (hc : w.cells? base a 5 = some cs) (h : DataW.trod enc Try.prog w base spare held fuel 56 cs = some y)
    (hw : ∀ m ∈ DataW.weights Try.prog 56 y.1, m ≤ B) :
    ∃ b o, a = ⟨b, o, none⟩ ∧ ∃ x, ActAt w b o x ∧ x.data.length ≤ B ∧ x.keep.length ≤ B := by
  obtain ⟨_, hcl, hat⟩ := World.cells?_some hc
  obtain ⟨xs, n, _, hy, _, hxl, hf⟩ := DataW.trod_struct Try.underlying56 h
  match cs, hcl with
  | [c0, c1, c2, c3, c4], _ =>
    have g0 := hat 0 (by omega)
    have g1 := hat 1 (by omega)
    have g2 := hat 2 (by omega)
    have g3 := hat 3 (by omega)
    have g4 := hat 4 (by omega)
    obtain ⟨b, o, spot⟩ := a
    have hs : spot = none := by simpa [Addr.add] using World.cell?_spot g0
    subst hs
    simp only [Addr.add_lit, List.getElem?_cons_zero, List.getElem?_cons_succ] at g0 g1 g2 g3 g4
    have ci : Try.prog.cellsOf 3 = 1 := by kernel_rfl
    have cd : Try.prog.cellsOf 31 = 1 := by kernel_rfl
    have ck : Try.prog.cellsOf 24 = 1 := by kernel_rfl
    have hl5 : xs.length = 5 := hxl
    have f0 : DataW.trod enc Try.prog w base spare held n 3 (([c0, c1, c2, c3, c4].drop 0).take (Try.prog.cellsOf 3)) = xs[0]? := hf 0 _ rfl
    have f1 : DataW.trod enc Try.prog w base spare held n 3 (([c0, c1, c2, c3, c4].drop 1).take (Try.prog.cellsOf 3)) = xs[1]? := hf 1 _ rfl
    have f2 : DataW.trod enc Try.prog w base spare held n 3 (([c0, c1, c2, c3, c4].drop 2).take (Try.prog.cellsOf 3)) = xs[2]? := hf 2 _ rfl
    have f3 : DataW.trod enc Try.prog w base spare held n 31 (([c0, c1, c2, c3, c4].drop 3).take (Try.prog.cellsOf 31)) = xs[3]? := hf 3 _ rfl
    have f4 : DataW.trod enc Try.prog w base spare held n 24 (([c0, c1, c2, c3, c4].drop 4).take (Try.prog.cellsOf 24)) = xs[4]? := hf 4 _ rfl
    rw [List.getElem?_eq_getElem (by omega)] at f0 f1 f2 f3 f4
    simp only [ci, cd, ck, List.drop_zero, List.drop_succ_cons, List.take_succ_cons, List.take_zero] at f0 f1 f2 f3 f4
    obtain ⟨m0, e0, _, w0⟩ := DataW.trod_int Try.underlying3 f0
    obtain ⟨m1, e1, _, w1⟩ := DataW.trod_int Try.underlying3 f1
    obtain ⟨m2, e2, _, w2⟩ := DataW.trod_int Try.underlying3 f2
    obtain rfl : c0 = .int .i64 m0 := by simpa using e0
    obtain rfl : c1 = .int .i64 m1 := by simpa using e1
    obtain rfl : c2 = .int .i64 m2 := by simpa using e2
    obtain ⟨l, hb⟩ := open_bytes f3
    obtain ⟨ks, hk⟩ := open_bools f4
    have hwe : ∀ (j : Nat) (t : TypeId) (hj : j < xs.length), [(3 : TypeId), 3, 3, 31, 24][j]? = some t → ∀ m ∈ DataW.weights Try.prog t xs[j].1, m ≤ B := by
      intro j t hj htj m hm
      refine hw m ?_
      rw [hy]
      simp only [DataW.weights, Try.underlying56]
      exact DataW.weights_mem_each (j := j) (t := t) (d := xs[j].1) htj (by rw [List.getElem?_map, List.getElem?_eq_getElem hj]; rfl) m hm
    have b1 : Try.prog.bytesOf 5 = 1 := by kernel_rfl
    have b2 : Try.prog.bytesOf 4 = 1 := by kernel_rfl
    obtain ⟨da, dc, hd⟩ := hb.shape
    obtain ⟨ka, kc, hkk, _⟩ := id hk
    have l1 := trod_slice_weight Try.underlying31 f3 (hwe 3 31 (by omega) rfl) _ _ _ hd
    have l2 := trod_slice_weight Try.underlying24 f4 (hwe 4 24 (by omega) rfl) _ _ _ hkk
    rw [b1, Nat.mul_one] at l1
    rw [b2, Nat.mul_one, List.length_map] at l2
    exact ⟨b, o, rfl, ⟨m0, m1, m2, l, ks⟩, ⟨c3, c4, by simpa using g0, by simpa using g1, by simpa using g2, by simpa using g3, by simpa using g4, hb, hk, w1, w2⟩, l1, l2⟩
theorem open_acts_z {B : Nat} {fuel : Nat} {v : Value} {x : DataW H × List MemPlace} (h : DataW.trod enc Try.prog w base spare held fuel 22 [v] = some x) (hw : ∀ m ∈ DataW.weights Try.prog 22 x.1, m ≤ B) :
    ∃ l : List Act4, ActsIn w v l ∧ ∀ x ∈ l, x.data.length ≤ B ∧ x.keep.length ≤ B := by
  rcases DataW.trod_slice Try.underlying22 h with ⟨hcs, _⟩ | ⟨a, len, cap, elems, rest, n, _, hcs, hx, _, hl, hm, hlen, hel, _⟩
  · exact ⟨[], ⟨none, 0, by simpa using hcs, by simp, .inl rfl⟩, by simp⟩
  · have c5 : Try.prog.cellsOf 56 = 5 := by kernel_rfl
    obtain rfl : v = .slice (some a) len cap := by simpa using hcs
    have at_ : ∀ i, i < len → ∃ b o, a.add (i * 5) = ⟨b, o, none⟩ ∧ ∃ x, ActAt w b o x ∧ x.data.length ≤ B ∧ x.keep.length ≤ B := fun i hi => by
      have h1 := hel i hi
      rw [c5] at h1
      have hy : elems[i]? = some (elems[i]'(by omega)) := List.getElem?_eq_getElem (by omega)
      rw [hy, Option.bind_eq_some_iff] at h1
      obtain ⟨cs, h2, h3⟩ := h1
      refine open_act_z h2 h3 (fun m hmm => hw m ?_)
      rw [hx]
      simp only [DataW.weights, Try.underlying22, List.mem_cons, List.mem_append]
      exact .inr (.inl (weights_all_mem (List.mem_map.2 ⟨_, List.getElem_mem (by omega), rfl⟩) m hmm))
    by_cases h0 : len = 0
    · subst h0; exact ⟨[], ⟨some a, cap, rfl, by simp, .inl rfl⟩, by simp⟩
    · obtain ⟨b, o, e0, _⟩ := at_ 0 (by omega)
      have e1 : a.add (0 * 5) = a := by simp [Addr.add]
      rw [e1] at e0
      subst e0
      have each : ∀ i, ∃ x : Act4, i < len → ActAt w b (o + i * 5) x ∧ x.data.length ≤ B ∧ x.keep.length ≤ B := fun i => by
        by_cases hi : i < len
        · obtain ⟨b2, o2, e, x, hx⟩ := at_ i hi
          rw [Addr.add_lit] at e
          obtain ⟨rfl, rfl, _⟩ := Addr.mk.inj e
          exact ⟨x, fun _ => hx⟩
        · exact ⟨⟨0, 0, 0, [], []⟩, fun h => absurd h hi⟩
      obtain ⟨U, hU⟩ := Classical.axiomOfChoice each
      refine ⟨(List.range len).map U, ⟨some ⟨b, o, none⟩, cap, by simp, by unfold maxLen at hm; simp; omega, ?_⟩, ?_⟩
      · right
        refine ⟨b, o, rfl, fun r hr => ?_⟩
        have hr' : r < len := by simpa using hr
        simpa using (hU r hr').1
      · intro x hx
        obtain ⟨i, hi, rfl⟩ := List.mem_map.1 hx
        exact (hU i (List.mem_range.1 hi)).2
end
end Go.Proofs.Ytmlancmcgcjodaa
