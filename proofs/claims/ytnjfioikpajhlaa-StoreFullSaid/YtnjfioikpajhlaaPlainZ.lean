import Derived.Test.YtnjfioikpajhlaaPlainY
/- The store's plain law: a batch of one key. -/
namespace Go.Proofs.Ytnjfioikpajhlaa
namespace S6
theorem full_good {l : List Pr} {key : Key} (hk0 : key ≠ []) (hk : key.length ≤ 32) {v : List UInt8} (hv : v.length ≤ 4000) : Good l [⟨key, v, false, verOf l key⟩] :=
  ⟨by simp, (fun x hx => by rw [List.mem_singleton] at hx; subst hx; exact ⟨hk0, hk, hv⟩), List.pairwise_singleton _ _, (fun x hx h => by rw [List.mem_singleton] at hx; subst hx; cases h), (fun x hx => by rw [List.mem_singleton] at hx; subst hx; rfl)⟩
theorem one_batch (n : Nat) (hn : n < 18446744073709551616) (x : Wr) (hk : x.key.length ≤ 32) (hv : x.val.length ≤ 4000) : (batchB n [x]).length ≤ 8192 := by
  have h1 := (W.vb_len10 n hn).1
  have h2 := (W.vb_len10 1 (by omega)).1
  have h3 := wrB_len x (by omega) (by omega)
  unfold batchB wrsB
  simp only [List.length_append, List.flatMap_cons, List.flatMap_nil, List.length_nil, List.length_singleton]
  omega
theorem full_out {S : St} {n : Int} {B : Nat} (h : SInv S n B) (hok : D.Ok S.L.d) (hB : B < 4294967290) (key : Key) (hk0 : key ≠ []) (hk : key.length ≤ 32) (v : List UInt8) (hv : v.length ≤ 4000) :
    (areaS S < needsL (apl S.l (S.num + 1) [⟨key, v, false, verOf S.l key⟩]) → (commit S [⟨key, v, false, verOf S.l key⟩]).2.2 = 6) ∧ (¬ areaS S < needsL (apl S.l (S.num + 1) [⟨key, v, false, verOf S.l key⟩]) → (commit S [⟨key, v, false, verOf S.l key⟩]).2.2 = 0) := by
  have hg := full_good (l := S.l) hk0 hk hv
  have hn := h.num
  cases commit_out h hok hB [⟨key, v, false, verOf S.l key⟩] with
  | no c h0 he hw =>
    rcases hw with ⟨h1, _⟩ | ⟨_, _, h1, _⟩ | ⟨_, _, _, h1, h2⟩
    · exact absurd (good_wrong hg) h1
    · have := one_batch (S.num + 1) (by omega) ⟨key, v, false, verOf S.l key⟩ hk hv
      omega
    · exact ⟨fun _ => by rw [he, h2], fun h3 => absurd h1 h3⟩
  | nil hw he => cases hw
  | yes T hw hg2 hb hf he hl hn2 hi => exact ⟨fun h3 => by omega, fun _ => by rw [he]⟩
end S6
end Go.Proofs.Ytnjfioikpajhlaa
