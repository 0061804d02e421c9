/- Laws on bytes in memory at this seat's own types: strings of bytes, slices that the call owns, append; a region's condition made narrower. -/
import Derived.Test.YtmcmocakfhedfaaProg
import Derived.Test.YtmcmocakfhedfaaBase
import Derived.OpenShut
import Derived.Deep.RegionHeld3
namespace Go.Proofs.Ytmcmocakfhedfaa
open Go.RowKit Go.ChangeShapes Go.WideShapes Go.ChangeAt

theorem info_u8 : (Try.prog.info? 5).map (fun i => (i.zero, i.size, i.bytes)) = some (some (.int .u8 0), 1, 1) := by kernel_rfl

theorem size_u8 : (Try.prog.info? 5).map (·.size) = some 1 := by kernel_rfl

theorem own_open {w : World} {base : Nat} {e : TypeId} {v : Value} {n : Nat} {xs : List Value} (h : w.ownsRow base e 1 v n xs) (hn : 0 < n) :
    ∃ g cap, v = .slice (some ⟨g, 0, none⟩) n cap ∧ base ≤ g ∧ g < w.heap.size ∧ n ≤ cap ∧ cap ≤ maxLen ∧ ∀ j, j < n → w.cell? ⟨g, j, none⟩ = xs[j]? := by
  rcases h.2 with ⟨_, h0⟩ | ⟨g, cap, cur, hv, hb, hg, hnc, hcm, _, _⟩
  · omega
  · subst hv
    refine ⟨g, cap, rfl, hb, (h.lt g rfl).2, hnc, hcm, fun j hj => ?_⟩
    exact h.cellAt j (by omega)

/-- 'append([]byte{}, b...)': a copy of the bytes. -/
theorem own_empty (w : World) (base : Nat) (e : TypeId) (hb : base ≤ w.heap.size) : (w.alloc (.cells #[] e)).ownsRow base e 1 (.slice (some ⟨w.heap.size, 0, none⟩) 0 0) 0 [] :=
  World.ownsRow_made w #[] 0 hb (by simp [maxLen]) rfl

theorem Ext.setCell {a w : World} (h : Ext a w) {p : Addr} (hp : a.heap.size ≤ p.block) (u : Value) : Ext a (w.setCell p u) := Below.setCell (B := a.heap.size) h hp u

/-- 'append(v, x...)' once more, its length by a name of its own, what is owned as bytes. -/
theorem wpl_append_b {ops : Array Oper} {rest : List Oper} {o : Oper} {a : Act} {Q : Exit → Act → World → Prop} (w : World) (hgd : o.guard = none) (s x : Operand)
    (ho : o.op = .call { callee := .builtin .append, args := #[s, x], argTypes := #[31, 31] })
    (base : Nat) (v : Value) (xs : List UInt8) (hs : a.eval s = v) (hown : w.ownsRow base 5 1 v xs.length (xs.map byteVal))
    (y : Value) (ys : List UInt8) (hx : a.eval x = y) (hr : Bs w y ys) (zs : List UInt8) (hzs : xs ++ ys = zs)
    (h63 : zs.length ≤ 140737488355328) (hbase : base ≤ w.heap.size)
    (h : ∀ v' w', w'.ownsRow base 5 1 v' zs.length (zs.map byteVal) → w.grownBy w' v.ownBlock → wpList Try.prog ops Q rest (a.put o.dst v') w') : wpList Try.prog ops Q (o :: rest) a w := by
  obtain ⟨i0, hi, hz0, hz1, hz2⟩ := info_parts info_u8
  subst hzs
  refine wpl_append w hgd s x 31 ho base 5 i0 (.int .u8 0) 1 Try.underlying31 hi hz0 hz1 hz2 rfl v xs.length (xs.map byteVal) hs hown y (ys.map byteVal) hx hr.reads ?_ ?_ hbase ?_
  · unfold maxLen; simp at h63 ⊢; omega
  · simp at h63 ⊢; omega
  · intro v' w' h1 h2
    refine h v' w' ?_ h2
    rw [List.map_append, List.length_append]
    simpa using h1

theorem own_shape {w : World} {base : Nat} {e : TypeId} {v : Value} {n : Nat} {xs : List Value} (h : w.ownsRow base e 1 v n xs) :
    (∃ a cap, v = .slice a 0 cap ∧ n = 0) ∨ ∃ g cap, v = .slice (some ⟨g, 0, none⟩) n cap ∧ 0 < n ∧ base ≤ g := by
  by_cases hn : n = 0
  · subst hn
    obtain ⟨_, h2⟩ := h
    rcases h2 with ⟨hv, _⟩ | ⟨g, cap, cur, hv, _⟩
    · exact .inl ⟨_, _, hv, rfl⟩
    · exact .inl ⟨_, _, hv, rfl⟩
  · obtain ⟨g, cap, hv, hg, _⟩ := own_open h (by omega)
    exact .inr ⟨g, cap, hv, by omega, hg⟩

theorem wf_u64 {n : Int} (h : (Lit.int .u64 n).wf = true) : 0 ≤ n ∧ n < 18446744073709551616 := by
  simp [Lit.wf, IntKind.min, IntKind.max, IntKind.bits, IntKind.signed] at h; omega

theorem wf_i64 {n : Int} (h : (Lit.int .i64 n).wf = true) : -9223372036854775808 ≤ n ∧ n ≤ 9223372036854775807 := by
  simp [Lit.wf, IntKind.min, IntKind.max, IntKind.bits, IntKind.signed] at h; omega

theorem wf_u8 {n : Int} (h : (Lit.int .u8 n).wf = true) : 0 ≤ n ∧ n < 256 := by
  simp [Lit.wf, IntKind.min, IntKind.max, IntKind.bits, IntKind.signed] at h; omega

theorem bs_of_row {W : World} {x : Addr} {len cap : Nat} {zs : List Int} (hl : len ≤ cap) (hm : cap ≤ maxLen) (hz : zs.length = cap)
    (hcell : ∀ i, i < zs.length → W.cell? (x.add i) = some (.int .u8 (zs.getD i 0))) (hwz : ∀ n ∈ zs, (Lit.int .u8 n).wf = true) : ∃ l, Bs W (.slice (some x) len cap) l ∧ l.length = len := by
  obtain ⟨b, off, spot⟩ := x
  have hlen : ((zs.take len).map (fun n => UInt8.ofNat n.toNat)).length = len := by simp; omega
  refine ⟨(zs.take len).map (fun n => UInt8.ofNat n.toNat), ⟨some ⟨b, off, spot⟩, cap, by rw [List.length_map, hlen], by rw [List.length_map, hlen]; exact hl, hm, by simp, bytes_one _, ?_⟩, hlen⟩
  by_cases h0 : len = 0
  · left; subst h0; simp
  · right
    have hc0 := hcell 0 (by omega)
    have hs : spot = none := by simpa [Addr.add] using World.cell?_spot hc0
    subst hs
    refine ⟨b, off, rfl, fun j u hj => ?_⟩
    have hj' : j < len := by
      have := (List.getElem?_eq_some_iff.1 hj).1
      simp at this; omega
    have h := hcell j (by omega)
    rw [Addr.add_lit] at h
    rw [h]
    have hjz : j < zs.length := by omega
    have hw : (Lit.int .u8 zs[j]).wf = true := hwz _ (List.getElem_mem hjz)
    have hb : 0 ≤ zs[j] ∧ zs[j] < 256 := by
      simp [Lit.wf, IntKind.min, IntKind.max, IntKind.bits, IntKind.signed] at hw; omega
    have e : u = byteVal (UInt8.ofNat zs[j].toNat) := by
      simp [List.getElem?_take, hj', hjz] at hj
      exact hj.symm
    rw [e]
    unfold byteVal
    have e2 : ((UInt8.ofNat zs[j].toNat).toNat : Int) = zs[j] := by simp; omega
    rw [e2]
    simp [List.getD, hjz]

/-- A condition on the worlds of a region may be made narrower on the way. -/
theorem wpAnyH_imp {P : Program} {ops : Array Oper} {Q : Exit → Act → World → Prop} {md : Region.Mode} {S S' : World → Prop} (h : ∀ w, S' w → S w) :
    ∀ (fuel : Nat) (listed : Array Bool) (a : Act) (w : World), wpAnyH P md ops Q S' fuel listed a w → wpAnyH P md ops Q S fuel listed a w
  | 0, _, _, _, hh => hh
  | fuel + 1, _, _, _, hh => ⟨hh.1, fun i hi => wpOp_mono (fun a' w' h' => ⟨h w' h'.1, wpAnyH_imp h fuel _ a' w' h'.2⟩) (hh.2 i hi)⟩

/-- 'string(b)' in every later world. -/
def Str (w : World) (v : Value) (l : List UInt8) : Prop := ∀ w', Ext w w' → (convert 31 9 v).run Try.prog w' = .ok (.string ⟨l.toArray⟩) w'

theorem Bs.str {w : World} {v : Value} {l : List UInt8} (h : Bs w v l) : Str w v l := fun _ hx =>
  (h.ext hx).toString 31 9 5 Try.underlying31 Try.underlying5 Try.underlying9

/-- A piece of a row that reads. -/
theorem Bs.take {w : World} {a : Option Addr} {len cap : Nat} {l : List UInt8} (h : Bs w (.slice a len cap) l) (k : Nat) (hk : k ≤ len) : Bs w (.slice a k cap) (l.take k) := by
  obtain ⟨a', cap', hv, h1, h2, hn, h3, h4⟩ := h
  rw [List.length_map] at hv h1
  simp only [Value.slice.injEq] at hv
  obtain ⟨rfl, rfl, rfl⟩ := hv
  refine ⟨a, cap, by simp; omega, by simp; omega, h2, hn, bytes_one _, ?_⟩
  rcases h4 with h4 | ⟨b, off, hb, hc⟩
  · left
    have : l = [] := by simpa using h4
    subst this; simp
  · right
    refine ⟨b, off, hb, fun j u hj => hc j u ?_⟩
    have hj' := (List.getElem?_eq_some_iff.1 hj).1
    have hjk : j < k := by rw [List.length_map, List.length_take] at hj'; omega
    rw [List.map_take, List.getElem?_take, if_pos hjk] at hj
    exact hj

theorem one_string {P : Program} (src dst e : TypeId) (hs : P.underlying src = some (.slice e)) (he : P.underlying e = some (.int .u8)) (hd : P.underlying dst = some .string) (w : World) (b : UInt8) (x : Int) (hx : x = (b.toNat : Int)) :
    (convert src dst (.slice (some ⟨w.heap.size, 0, none⟩) 1 1)).run P (w.alloc (.cells #[.int .u8 x] e)) = .ok (.string ⟨#[b]⟩) (w.alloc (.cells #[.int .u8 x] e)) := by
  subst hx
  have h : Bs (w.alloc (.cells #[.int .u8 (b.toNat : Int)] e)) (.slice (some ⟨w.heap.size, 0, none⟩) 1 1) [b] := Reads.one w _ e rfl
  exact h.toString src dst e hs he hd

theorem ba_append (a b : List UInt8) : (⟨a.toArray⟩ : ByteArray) ++ ⟨b.toArray⟩ = ⟨(a ++ b).toArray⟩ := by
  apply ByteArray.ext
  simp [ByteArray.data_append]

theorem ba_push (a : List UInt8) (b : UInt8) : (⟨a.toArray⟩ : ByteArray) ++ ⟨#[b]⟩ = ⟨(a ++ [b]).toArray⟩ := ba_append a [b]
end Go.Proofs.Ytmcmocakfhedfaa
