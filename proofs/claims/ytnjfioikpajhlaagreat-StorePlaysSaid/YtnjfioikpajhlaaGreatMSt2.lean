/- MSt2: StE StF StG. -/
import Derived.Test.YtnjfioikpajhlaaGreatMSt1
import Derived.Test.YtnjfioikpajhlaaGreatPlainV
import Derived.Test.YtnjfioikpajhlaaGreatMWord
import Derived.Test.YtnjfioikpajhlaaGreatMWord
set_option maxRecDepth 100000
set_option maxHeartbeats 64000000
namespace Go.Proofs.YtnjfioikpajhlaaGreat
open Go.RowKit Go.Shelf
def wrc (x : S6.Wr) (u : Value) : List Value := [strV x.key, u, .bool x.drop, .int .u64 (x.ver : Int)]
def wrcs (ws : List S6.Wr) (us : List Value) : List Value := (ws.zip us).flatMap (fun a => wrc a.1 a.2)
theorem wrcs_get (ws : List S6.Wr) (us : List Value) (i : Nat) (hi : i < ws.length) (hu : us.length = ws.length) (j : Nat) (hj : j < 4) : (wrcs ws us)[i * 4 + j]? = (wrc ws[i] (us[i]'(by omega)))[j]? := by
 unfold wrcs
 have hz : i < (ws.zip us).length := by rw [List.length_zip]; omega
 rw [flat_get _ 4 _ (fun _ _ => rfl) i hz j hj, List.getElem_zip]
theorem wrcs_append (ws xs : List S6.Wr) (us vs : List Value) (h : us.length = ws.length) : wrcs (ws ++ xs) (us ++ vs) = wrcs ws us ++ wrcs xs vs := by
 unfold wrcs
 rw [List.zip_append h.symm, List.flatMap_append]
theorem wrcs_one (ws : List S6.Wr) (us : List Value) (h : ∀ u ∈ us, u.oneCell' = true) : ∀ v ∈ wrcs ws us, v.oneCell' = true := by
 intro v hv
 unfold wrcs at hv
 obtain ⟨a, ha, hv⟩ := List.mem_flatMap.1 hv
 have hu := (List.of_mem_zip ha).2
 simp [wrc] at hv
 rcases hv with rfl | rfl | rfl | rfl
 ·rfl
 ·exact h _ hu
 ·rfl
 ·rfl
def WrsIn (w : World) (X : Nat -> Prop) (v : Value) (ws : List S6.Wr) : Prop :=
 ∃ us, us.length = ws.length /\ (∀ i (h : i < ws.length) (k : i < us.length), Bs w us[i] ws[i].val /\ ∀ b, us[i].ownBlock = some b -> X b) /\ ReadsN 4 w v ws.length (wrcs ws us) /\ ∀ k, v.ownBlock = some k -> X k
theorem WrsIn.ext {w w' : World} {X : Nat -> Prop} {v : Value} {ws : List S6.Wr} (h : WrsIn w X v ws) (he : Ext w w') : WrsIn w' X v ws := let ⟨us, h1, h2, h3, h4⟩ := h; ⟨us, h1, fun i a b => ⟨(h2 i a b).1.ext he, (h2 i a b).2⟩, h3.ext he, h4⟩
theorem WrsIn.keeps {w w' : World} {X : Nat -> Prop} {v : Value} {ws : List S6.Wr} (h : WrsIn w X v ws) (he : Keeps X w w') : WrsIn w' X v ws := let ⟨us, h1, h2, h3, h4⟩ := h; ⟨us, h1, fun i a b => ⟨he.bs (h2 i a b).1 (h2 i a b).2, (h2 i a b).2⟩, h3.keeps he h4, h4⟩
theorem WrsIn.mono {w : World} {X Y : Nat -> Prop} {v : Value} {ws : List S6.Wr} (h : WrsIn w X v ws) (hXY : ∀ k, X k -> Y k) : WrsIn w Y v ws := let ⟨us, h1, h2, h3, h4⟩ := h; ⟨us, h1, fun i a b => ⟨(h2 i a b).1, fun k hk => hXY k ((h2 i a b).2 k hk)⟩, h3, fun k hk => hXY k (h4 k hk)⟩
theorem WrsIn.nil (w : World) (X : Nat -> Prop) : WrsIn w X (.slice none 0 0) [] := ⟨[], rfl, fun i h => absurd h (Nat.not_lt_zero _), ⟨none, 0, rfl, rfl, Nat.le_refl _, by unfold maxLen; omega, fun _ => rfl, (fun u hu => by cases hu), .inl rfl⟩, fun k hk => by simp [Value.ownBlock] at hk⟩
theorem WrsIn.shape {w : World} {X : Nat -> Prop} {v : Value} {ws : List S6.Wr} (h : WrsIn w X v ws) : ws.length <= 9223372036854775807 /\ ∃ a cap, v = .slice a ws.length cap /\ ws.length <= cap /\ ∀ i (h : i < ws.length), ∃ b off u, a = some ⟨b, off, none⟩ /\ X b /\
 w.cell? ⟨b, off + i * 4, none⟩ = some (strV ws[i].key) /\ w.cell? ⟨b, off + i * 4 + 1, none⟩ = some u /\ w.cell? ⟨b, off + i * 4 + 2, none⟩ = some (.bool ws[i].drop) /\ w.cell? ⟨b, off + i * 4 + 3, none⟩ = some (.int .u64 (ws[i].ver : Int)) /\ Bs w u ws[i].val /\ ∀ k, u.ownBlock = some k -> X k := by
 obtain ⟨us, hl, hv0, ⟨a, cap, hv, h0, h1, h2, hn, h3, h4⟩, hX⟩ := h
 unfold maxLen at h2
 refine ⟨by omega, a, cap, hv, h1, fun i hi => ?_⟩
 rcases h4 with h4 | ⟨b, off, rfl, hc⟩
 ·omega
 ·have hi' : i < us.length := by rw [hl]; exact hi
  have g := fun j hj => wrcs_get ws us i hi hl j hj
  exact ⟨b, off, us[i], rfl, hX b (by rw [hv]; rfl), hc _ _ (g 0 (by omega)), by rw [Nat.add_assoc]; exact hc _ _ (g 1 (by omega)), by rw [Nat.add_assoc]; exact hc _ _ (g 2 (by omega)), by rw [Nat.add_assoc]; exact hc _ _ (g 3 (by omega)), (hv0 i hi hi').1, (hv0 i hi hi').2⟩
theorem el_u8 : Elem 56 5 1 1 := elem_of Tryz.underlying56 (by decide) (by decide) (by kernel_rfl)
namespace S6
def batchTo (n : Nat) (ws : List Wr) (k : Nat) : List UInt8 := W.vb n ++ W.vb ws.length ++ wrsB (ws.take k)
theorem batchTo_succ (n : Nat) (ws : List Wr) (k : Nat) (h : k < ws.length) : batchTo n ws (k + 1) = batchTo n ws k ++ wrB ws[k] := by
 unfold batchTo
 rw [List.take_succ_eq_append_getElem h, wrsB_snoc, List.append_assoc]
 simp [List.append_assoc]
theorem batchTo_zero (n : Nat) (ws : List Wr) : batchTo n ws 0 = W.vb n ++ W.vb ws.length := by unfold batchTo wrsB; simp
theorem batchTo_all (n : Nat) (ws : List Wr) : batchTo n ws ws.length = batchB n ws := by unfold batchTo batchB; rw [List.take_length]
def Fit (x : Wr) : Prop := x.key.length <= 1000000 /\ x.val.length <= 1000000
theorem batchTo_len (n : Nat) (ws : List Wr) (k : Nat) (hn : n < 18446744073709551616) (hk : k <= ws.length) (hl : ws.length <= 10000) (h : ∀ x ∈ ws, Fit x) : (batchTo n ws k).length <= 20 + 10000 * 2000021 /\ 0 < (batchTo n ws k).length := by
 have h1 := W.vb_len10 n hn
 have h2 := W.vb_len10 ws.length (by omega)
 have h3 := wrsB_len (ws.take k) (fun x hx => h x (List.mem_of_mem_take hx))
 rw [List.length_take] at h3
 have h4 : min k ws.length * 2000021 <= 10000 * 2000021 := Nat.mul_le_mul_right _ (by omega)
 unfold batchTo
 rw [List.length_append, List.length_append]
 omega
end S6
theorem batch_any (w : World) (X : Nat -> Prop) (v : Value) (n : Nat) (ws : List S6.Wr) (h : WrsIn w X v ws) (hn : n < 18446744073709551616) (hl : ws.length <= 10000) (hf : ∀ x ∈ ws, S6.Fit x) :
 Calls Tryz.prog 45 #[.int .u64 (n : Int), v] w fun e w' => MadeB w w' (S6.batchB n ws) e := by
 have HW := qh h
 obtain ⟨_, a, cap, rfl, hcap, hcell⟩ := h.shape
 have HC := qh hcell
 have HF := qh hf
 have hli : (ws.length : Int) <= 10000 := by omega
 have v1 := W.vb_len10 n hn
 have v2 := W.vb_len10 ws.length (by omega)
 have HV := fun (u : Value) (l : List UInt8) (m : Nat) (w1 : World) (hm : m < 18446744073709551616) (hb : Bs w1 u l) (hlen : l.length <= 1099511627776) => var_any u l m w1 hm hb hlen
 clear h hcell hf
 unfold MadeB
 go_enter Tryz.func45, Tryz.ntmps45
 go_wp2_with fail
 refine (var_any _ [] n w hn (Bs.nil w) (by simp)).mono ?_
 rintro e w1 ⟨u1, rfl, hown1, hx1⟩
 have hb1 := Bs.of_own hown1
 rw [List.nil_append] at hb1
 clear hown1
 go_wp2_with fail
 refine (var_any u1 (W.vb n) ws.length w1 (by omega) hb1 (by omega)).mono ?_
 rintro e w2 ⟨u2, rfl, hown2, hx2⟩
 have hx02 := hx1.trans hx2
 have HO2 := qh (show w2.ownsRow w.heap.size 5 1 u2 (S6.batchTo n ws 0).length ((S6.batchTo n ws 0).map byteVal) by
  rw [S6.batchTo_zero]; exact ownsRow_base5 hown2 hx1.size)
 have HX2 := qh hx02
 clear hown2 hx1 hx2 hb1 hx02
 go_wp2
 go_loopw [5, 16] (fun bv iv wr => ∃ k : Nat, k <= ws.length /\ iv = .int .i64 (k : Int) /\ wr.ownsRow w.heap.size 5 1 bv (S6.batchTo n ws k).length ((S6.batchTo n ws k).map byteVal) /\ Hid (Ext w wr)) (fun _ iv _ => ws.length - (intOf iv).toNat)
 case atStart => exact ⟨0, by omega, rfl, HO2.out, HX2.out⟩
 case round =>
  obtain ⟨k, hk, rfl, hown, hx⟩ := hrel
  have HO := qh hown
  clear hown HO2 HX2
  by_cases hlt : k < ws.length
  ·have hlti : (k : Int) < (ws.length : Int) := by omega
   obtain ⟨b, off, u, rfl, -, c0, c1, c2, c3, hbu, -⟩ := HC.out k hlt
   have HSU := qh (S6.batchTo_succ n ws k hlt)
   have HFI := qh (HF.out _ (List.getElem_mem hlt))
   have hbl := S6.batchTo_len n ws k hn hk hl HF.out
   replace c0 := hx.out.cell c0
   replace c1 := hx.out.cell c1
   replace c2 := hx.out.cell c2
   replace c3 := hx.out.cell c3
   replace hbu := hbu.ext hx.out
   unfold strV at c0
   unfold S6.wrB at HSU
   unfold S6.Fit at HFI
   generalize S6.batchTo n ws k = B at *
   generalize ws[k].key = key at *
   generalize ws[k].val = val at *
   generalize ws[k].drop = dr at *
   generalize ws[k].ver = ver at *
   obtain ⟨ua, uc, rfl⟩ := hbu.shape
   have hkl := HFI.out.1
   have hvl := HFI.out.2
   have hkli : (key.length : Int) <= 1000000 := by omega
   have hvli : (val.length : Int) <= 1000000 := by omega
   have hwk : IntKind.u64.wrap (key.length : Int) = (key.length : Int) := by rw [IntKind.wrap_u64]; omega
   have hwv : IntKind.u64.wrap (val.length : Int) = (val.length : Int) := by rw [IntKind.wrap_u64]; omega
   go_upto_region 5 with fail
   have hW1 := Ext.of_alloc wr (.cells #[.string ⟨key.toArray⟩, .slice ua val.length uc, .bool dr, .int .u64 (ver : Int)] 58)
   have d0 : (wr.alloc (.cells #[.string ⟨key.toArray⟩, .slice ua val.length uc, .bool dr, .int .u64 (ver : Int)] 58)).cell? ⟨wr.heap.size, 0, none⟩ = some (.string ⟨key.toArray⟩) := by rw [World.cell?_alloc_at _ _ _ _ rfl]; rfl
   have d1 : (wr.alloc (.cells #[.string ⟨key.toArray⟩, .slice ua val.length uc, .bool dr, .int .u64 (ver : Int)] 58)).cell? ⟨wr.heap.size, 1, none⟩ = some (.slice ua val.length uc) := by rw [World.cell?_alloc_at _ _ _ _ rfl]; rfl
   have d2 : (wr.alloc (.cells #[.string ⟨key.toArray⟩, .slice ua val.length uc, .bool dr, .int .u64 (ver : Int)] 58)).cell? ⟨wr.heap.size, 2, none⟩ = some (.bool dr) := by rw [World.cell?_alloc_at _ _ _ _ rfl]; rfl
   have HO1 := qh (hW1.keptOwn HO.out)
   have HX1 := qh (hx.out.trans hW1)
   have HB1 := qh (hbu.ext hW1)
   generalize wr.alloc (.cells #[.string ⟨key.toArray⟩, .slice ua val.length uc, .bool dr, .int .u64 (ver : Int)] 58) = W1 at *
   have hq : w.heap.size <= wr.heap.size := hx.out.size
   generalize wr.heap.size = q at *
   clear c0 c1 c2 c3 HO hx hbu hW1
   have hx0 := Ext.of_drew W1
   have h1s := HX1.out.size
   have h2s := hx0.size
   have l1 := W.vb_len10 key.length (by omega)
   have l2 := W.vb_len10 val.length (by omega)
   go_region_held3 (fun v => v.cell? ⟨q, 0, none⟩ = some (.string ⟨key.toArray⟩)) (first
    | exact Ext.cell hx0 d0
    | exact Ext.cell hx5 (Ext.cell hx0 d0)
    | exact Ext.cell (hx5.grown hgrow6 (fun z hz => (hown5.lt z hz).1)) (Ext.cell hx0 d0)) (first
    | (go_at_call 77; refine (var_any u5 B key.length _ (by omega) ((Bs.of_own HO1.out).ext hx0) (by omega)).mono ?_; rintro e w5 ⟨v5, rfl, hown5, hx5⟩; have hown5b := ownsRow_base5 hown5 h2s)
    | (refine step_app_str w5 rfl _ _ rfl W1.heap.size v5 (B ++ W.vb key.length) key rfl rfl hown5b (by simp only [List.length_append]; omega) (by simp only [List.length_append]; omega) (Nat.le_trans h2s hx5.size) ?_; intro v6 w6 hown6 hgrow6))
   have HX6 := qh (hx0.trans (hx5.grown hgrow6 (fun z hz => (hown5.lt z hz).1)))
   have HO6 := qh hown6
   have e1 := Ext.cell HX6.out d1
   have e2 := Ext.cell HX6.out d2
   clear hown6 hgrow6 hown5b hown5 hx5 hx0 h2s d0 HO1 hwk
   have hs6 := HX6.out.size
   cases dr with
   | true =>
    go_wp2_with (first
     | ((with_reducible show wpList _ _ _ (⟨some 32, _, _, _, _, _⟩ :: _) _ _); refine wpl_build1 el_u8 _ rfl _ rfl (.int .u8 0) rfl (by rfl) ?_)
     | ((with_reducible show wpList _ _ _ (⟨some 33, _, _, _, _, _⟩ :: _) _ _); refine wpl_append_b _ rfl _ _ rfl W1.heap.size v6 (B ++ W.vb key.length ++ key) (by rfl) ((Ext.of_alloc w6 _).keptOwn HO6.out) _ [0] (by rfl) (Bs.lit w6 [0] 5 (by simp [maxLen])) _ rfl (by simp only [List.length_append, List.length_singleton]; omega) (Nat.le_trans hs6 (Ext.of_alloc w6 _).size) ?_; intro v8 w8 hown8 hgrow8)
     | fail)
    have hx8 := ((HX6.out.trans (Ext.of_alloc w6 _)).grown hgrow8 (fun z hz => (HO6.out.lt z hz).1))
    refine ⟨⟨k + 1, by omega, by go_num, ?_, HX1.out.trans hx8⟩, by simp [intOf]; omega⟩
    have e3 : S6.batchTo n ws (k + 1) = B ++ W.vb key.length ++ key ++ [0] := by rw [HSU.out, if_pos rfl]; simp only [List.append_assoc]
    rw [e3]; exact ownsRow_base5 hown8 h1s
   | false =>
    have hx0 := Ext.of_drew w6
    have hxa := Ext.of_alloc w6.drew (.cells #[.int .u8 1] 5)
    have hxb := HX6.out.trans (hx0.trans hxa)
    have hbs7 := HB1.out
    go_upto_region 8 with fail
    go_region_held3 (fun v => v.cell? ⟨q, 1, none⟩ = some (.slice ua val.length uc)) (first
     | exact Ext.cell hx0 e1
     | exact Ext.cell hxb d1
     | exact Ext.cell hx7 d1
     | exact Ext.cell (hx7.trans hx8) d1
     | exact Ext.cell ((hx7.trans hx8).grown hgrow9 (fun z hz => Nat.le_trans hx7.size (hown8.lt z hz).1)) d1) (first
     | (refine step_app_b (w6.drew.alloc (.cells #[.int .u8 1] 5)) rfl _ _ rfl W1.heap.size v6 (B ++ W.vb key.length ++ key) rfl ((hx0.trans hxa).keptOwn HO6.out) _ [1] rfl (Bs.lit w6.drew [1] 5 (by simp [maxLen])) (by simp only [List.length_append, List.length_singleton]; omega) hxb.size ?_; intro v7 w7 hown7 hgrow7; have hx7 := hxb.grown hgrow7 (fun z hz => (HO6.out.lt z hz).1))
     | (go_at_call 77; refine (var_any v7 (B ++ W.vb key.length ++ key ++ [1]) val.length _ (by omega) (Bs.of_own hown7) (by simp only [List.length_append, List.length_singleton]; omega)).mono ?_; rintro e w8 ⟨v8, rfl, hown8, hx8⟩)
     | (refine step_app_b w8 rfl _ _ rfl w7.heap.size v8 (B ++ W.vb key.length ++ key ++ [1] ++ W.vb val.length) rfl hown8 _ val rfl (hbs7.ext (hx7.trans hx8)) (by simp only [List.length_append, List.length_singleton]; omega) hx8.size ?_; intro v9 w9 hown9 hgrow9))
    have hx9 := (hx7.trans hx8).grown hgrow9 (fun z hz => Nat.le_trans hx7.size (hown8.lt z hz).1)
    have e3 : S6.batchTo n ws (k + 1) = B ++ W.vb key.length ++ key ++ [1] ++ W.vb val.length ++ val := by rw [HSU.out, if_neg (by simp)]; simp only [List.append_assoc]
    have HO9 := qh (show w9.ownsRow w.heap.size 5 1 v9 (S6.batchTo n ws (k + 1)).length ((S6.batchTo n ws (k + 1)).map byteVal) by
     rw [e3]; exact ownsRow_base5 hown9 (Nat.le_trans h1s hx7.size))
    have HX9 := qh (HX1.out.trans hx9)
    clear hown9 hgrow9 hown8 hx8 hx7 hown7 hgrow7 hx9 hxb hxa hx0 hbs7 e1 e2 d1 d2
    go_wp2
    refine ⟨⟨k + 1, by omega, by go_num, HO9.out, HX9.out⟩, by simp [intOf]; omega⟩
  ·obtain rfl : k = ws.length := by omega
   rw [S6.batchTo_all] at HO
   have HX := qh hx.out
   clear hx
   go_wp2
   go_ret
   exact ⟨_, rfl, HO.out, HX.out⟩
theorem WrsIn.one (w : World) (X : Nat -> Prop) (x : S6.Wr) (u : Value) (hu : Bs w u x.val) (hX : ∀ k, u.ownBlock = some k -> X k) :
 WrsIn (w.alloc (.cells #[.string ⟨x.key.toArray⟩, u, .bool x.drop, .int .u64 (x.ver : Int)] 58)) (New X w (w.alloc (.cells #[.string ⟨x.key.toArray⟩, u, .bool x.drop, .int .u64 (x.ver : Int)] 58))) (.slice (some ⟨w.heap.size, 0, none⟩) 1 1) [x] := by
 refine ⟨[u], rfl, fun i h k => ?_, ReadsN.row 4 w (wrcs [x] [u]) 58 1 rfl (by unfold maxLen; omega) (wrcs_one _ _ (by intro v hv; rw [List.mem_singleton] at hv; subst hv; exact hu.oneCell)), new_last (Ext.refl w) _ 1 1⟩
 obtain rfl : i = 0 := by simpa using h
 exact ⟨hu.ext (Ext.of_alloc _ _), fun b hb => .inl (hX b hb)⟩
theorem needs_any (w : World) (p : S6.Pr) (u : Value) (hu : Bs w u p.val) (hk : p.key.length <= 1000000) (hv : p.val.length <= 1000000) (hn : p.ver < 18446744073709551616) :
 Calls Tryz.prog 63 #[prv p u] w fun e w' => e = .returned (.int .i64 (S6.needP p : Int)) /\ Ext w w' := by
 have HU := qh hu
 obtain ⟨ua, uc, rfl⟩ := hu.shape
 clear hu
 have hb := fun (W : World) (h : WrsIn W (fun _ => True) (.slice (some ⟨w.heap.size + 1, 0, none⟩) 1 1) [⟨p.key, p.val, false, 0⟩]) => batch_any W (fun _ => True) _ p.ver [⟨p.key, p.val, false, 0⟩] h hn (by simp) (by intro x hx; rw [List.mem_singleton] at hx; subst hx; exact ⟨hk, hv⟩)
 have HB := qh hb
 have hlen : (S6.prB p).length <= 20 + 10000 * 2000021 := by
  have := (S6.batchTo_len p.ver [⟨p.key, p.val, false, 0⟩] 1 hn (by simp) (by simp) (by intro x hx; rw [List.mem_singleton] at hx; subst hx; exact ⟨hk, hv⟩)).1
  rw [show (1 : Nat) = [(⟨p.key, p.val, false, 0⟩ : S6.Wr)].length from rfl, S6.batchTo_all] at this
  exact this
 have HN := qh (show W5.need (S6.prB p).length = S6.needP p from rfl)
 have HE := qh (show S6.batchB p.ver [⟨p.key, p.val, false, 0⟩] = S6.prB p from rfl)
 rw [HE.out] at HB
 clear HE hb
 generalize S6.prB p = BB at *
 generalize S6.needP p = NN at *
 unfold MadeB at HB
 unfold prv strV
 go_enter Tryz.func63, Tryz.ntmps63
 go_wp2_with fail
 have hx1 := Ext.of_alloc w (.cells #[.string ⟨p.key.toArray⟩, .slice ua p.val.length uc, .int .u64 (p.ver : Int)] 129)
 have hW := WrsIn.one (w.alloc (.cells #[.string ⟨p.key.toArray⟩, .slice ua p.val.length uc, .int .u64 (p.ver : Int)] 129)) (fun _ => True) ⟨p.key, p.val, false, 0⟩ _ (HU.out.ext hx1) (fun _ _ => trivial)
 rw [World.size_alloc] at hW
 refine (HB.out _ (hW.mono (fun _ _ => trivial))).mono ?_
 rintro e w2 ⟨v2, rfl, hown2, hx2⟩
 obtain ⟨a2, c2, rfl⟩ := (Bs.of_own hown2).shape
 have HX := qh ((hx1.trans (Ext.of_alloc _ _)).trans hx2)
 clear hW hx1 hx2 hown2 HB
 go_wp2_with fail
 refine (need_any (BB.length : Int) w2 (by omega) (by omega)).mono ?_
 rintro e w3 ⟨rfl, rfl⟩
 rw [W5.need_nat, HN.out]
 go_wp2
 go_ret
 exact ⟨rfl, HX.out⟩
end Go.Proofs.YtnjfioikpajhlaaGreat
namespace Go.Proofs.YtnjfioikpajhlaaGreat
open Go.RowKit Go.Shelf
theorem rdvar_any (w : World) (v : Value) (l : List UInt8) (h : Bs w v l) (hl : l.length <= 1000000) :
 Calls Tryz.prog 92 #[v] w fun e w' =>
  e = .returned (.tuple #[.int .u64 ((W.rv l 0 0).1 : Int), .int .i64 ((W.rv l 0 0).2.1 : Int), .int .i64 ((W.rv l 0 0).2.2 : Int)]) /\ w = w' := by
 rcases h.open with ⟨a, cap, rfl, rfl, _, _⟩ | ⟨b, off, cap, rfl, hp, _, _, _, hc⟩
 ·exact readVar_nil a cap w
 ·exact readVar_cons b off cap l w hl hp hc
namespace S6
def numR (o : Option (List UInt8)) (most : Nat) : Nat × Option (List UInt8) := match o.bind (rdNum most) with
 | none => (0, none)
 | some (n, r) => (n, some r)
def bytR (o : Option (List UInt8)) (n : Nat) : List UInt8 × Option (List UInt8) := match o with
 | none => ([], none)
 | some b => if b.length < n then ([], none) else (b.take n, some (b.drop n))
end S6
def RdAt (w : World) (q : Nat) (X : Nat -> Prop) (o : Option (List UInt8)) : Prop :=
 ∃ bv, w.heap[q]? = some (.cells [bv, .bool o.isNone].toArray 143 (0, 0)) /\ Bs w bv (o.getD []) /\ (∀ k, bv.ownBlock = some k -> X k) /\ ¬ X q
theorem RdAt.of {w : World} {q : Nat} {X : Nat -> Prop} (bv : Value) (o : Option (List UInt8)) (hb : w.heap[q]? = some (.cells [bv, .bool o.isNone].toArray 143 (0, 0))) (h : Bs w bv (o.getD [])) (hX : ∀ k, bv.ownBlock = some k -> X k) (hq : ¬ X q) : RdAt w q X o := ⟨bv, hb, h, hX, hq⟩
theorem mod_two (w : World) (q : Nat) (u v : Value) : Mod (fun k => k = q) w ((w.setCell ⟨q, 0, none⟩ u).setCell ⟨q, 1, none⟩ v) := Mod.trans (F := fun k => k = q) (G := fun k => k = q) (Mod.setCell w ⟨q, 0, none⟩ u rfl) (Mod.setCell _ ⟨q, 1, none⟩ v rfl) (fun _ _ h => h)
section
variable {ops : Array Oper} {rest : List Oper} {o : Oper} {a : Act} {Q : Exit -> Act -> World -> Prop}
theorem wpl_cut_l (w : World) (hgd : o.guard = none) (x lo : Operand) (hop : o.op = .slice 56 x (some lo) none none) (v : Value) (l : List UInt8) (hx : a.eval x = v) (hr : Bs w v l)
 (kd : IntKind) (k : Nat) (hlo : a.eval lo = .int kd (k : Int)) (hk : k <= l.length) (h : ∀ y, Bs w y (l.drop k) -> (∀ z, y.ownBlock = some z -> v.ownBlock = some z) -> wpList Tryz.prog ops Q rest (a.put o.dst y) w) : wpList Tryz.prog ops Q (o :: rest) a w := by
 refine wpList_plain hgd fun K hK => ?_
 obtain ⟨i, z, hi, hz, h1, h2, h3⟩ := el_u8.info
 have hrN := (Bs.reads hr).toN
 rw [List.length_map] at hrN
 obtain ⟨b, cap, rfl, _⟩ := id hrN
 have hel : Tryz.prog.elem 56 = 5 := by unfold Program.elem; rw [el_u8.und]
 have hu : Tryz.prog.underlying 56 = some (.slice (Tryz.prog.elem 56)) := by rw [hel]; exact el_u8.und
 have hsize : (sizeOf (Tryz.prog.elem 56)).run Tryz.prog w = .ok 1 w := by rw [hel]; simp [sizeOf, typeInfo, hi, h1]
 have hrun := run_slice_l (P := Tryz.prog) (w := w) 56 b l.length cap hu kd (k : Int) (by omega) (by omega)
 rw [hsize] at hrun
 simp only [Result.andThen_ok, Int.toNat_natCast] at hrun
 unfold Oper.wp execOp
 simp only [hop, hx, hlo, Option.map_some, Option.map_none]
 have hrun2 := run_sliceAt_slice (P := Tryz.prog) (w := w) 56 (.slice b l.length cap) (some (.int kd (k : Int))) none none hu
 simp [hrun2, hrun, Result.andThen]
 refine hK _ _ (h _ ?_ ?_)
 ·have h5 := (hrN.sliced k hk).to1
  rw [Nat.mul_one, <- List.map_drop] at h5
  exact h5
 ·intro z hz
  unfold Go.sliced at hz
  cases b with
  | none =>
   split at hz <;> simp [Value.ownBlock] at hz
  | some ad =>
   split at hz
   ·simpa [Value.ownBlock] using hz
   ·have hab : ∀ m, (ad.add m).block = ad.block := fun m => by unfold Addr.add; split <;> rfl
    simp only [Option.map_some, Value.ownBlock] at hz
    have hz2 : (ad.add (k * 1)).block = z := Option.some.inj hz
    rw [<- hz2, hab]
    rfl
theorem wpl_cut_hm (w : World) (hgd : o.guard = none) (x hi mx : Operand) (hop : o.op = .slice 56 x none (some hi) (some mx)) (v : Value) (l : List UInt8) (hx : a.eval x = v) (hr : Bs w v l)
 (kd : IntKind) (k : Nat) (hhi : a.eval hi = .int kd (k : Int)) (hmx : a.eval mx = .int kd (k : Int)) (hk : k <= l.length) (h : ∀ y, Bs w y (l.take k) -> (∀ z, y.ownBlock = some z -> v.ownBlock = some z) -> wpList Tryz.prog ops Q rest (a.put o.dst y) w) : wpList Tryz.prog ops Q (o :: rest) a w := by
 refine wpList_plain hgd fun K hK => ?_
 have hrN := (Bs.reads hr).toN
 rw [List.length_map] at hrN
 obtain ⟨i, z, hi9, hz, h1, h2, h3⟩ := el_u8.info
 obtain ⟨b, cap, rfl, hcl, hcap, hcm, hnn, hone, hcell⟩ := id hrN
 have hel : Tryz.prog.elem 56 = 5 := by unfold Program.elem; rw [el_u8.und]
 have hu : Tryz.prog.underlying 56 = some (.slice (Tryz.prog.elem 56)) := by rw [hel]; exact el_u8.und
 have hrun := run_slice_hm (P := Tryz.prog) (w := w) 56 b l.length cap hu kd kd (k : Int) (k : Int) (by omega) (by omega) (by omega)
 have hrun2 := run_sliceAt_slice (P := Tryz.prog) (w := w) 56 (.slice b l.length cap) none (some (.int kd (k : Int))) (some (.int kd (k : Int))) hu
 unfold Oper.wp execOp
 simp only [hop, hx, hhi, hmx, Option.map_some, Option.map_none]
 have hsize : (sizeOf (Tryz.prog.elem 56)).run Tryz.prog w = .ok 1 w := by rw [hel]; simp [sizeOf, typeInfo, hi9, h1]
 rw [hsize] at hrun
 simp only [Result.andThen_ok, Int.toNat_natCast] at hrun
 have hsl : Go.sliced b 0 k k 1 = .slice b k k := by
  unfold Go.sliced
  split
  ·rename_i hk0; subst hk0; rfl
  ·cases b with
   | none => rfl
   | some ad => simp [Addr.add]
 rw [hsl] at hrun
 simp [hrun2, hrun, Result.andThen]
 refine hK _ _ (h (.slice b k k) ?_ ?_)
 ·have h5 := hrN.take k hk
  obtain ⟨a1, c1, hv1, g1, g2, g3, g4, g5, g6⟩ := h5
  obtain ⟨rfl, _, rfl⟩ := Value.slice.inj hv1
  have h6 : ReadsN 1 w (.slice b k k) k ((l.map byteVal).take (k * 1)) := ⟨b, k, rfl, g1, Nat.le_refl _, Nat.le_trans g2 g3, (fun e => by have := g4 e; omega), g5, g6⟩
  have h7 := h6.to1
  rw [Nat.mul_one, <- List.map_take] at h7
  exact h7
 ·intro z hz
  cases b with
  | none => simp [Value.ownBlock] at hz
  | some ad => simpa [Value.ownBlock] using hz
end
theorem rv_fits (l : List UInt8) (h : (W.rv l 0 0).2.2 = 0) : (W.rv l 0 0).1 < 18446744073709551616 /\ 1 <= (W.rv l 0 0).2.1 /\ (W.rv l 0 0).2.1 <= l.length := by
 obtain ⟨k, s, e, hh⟩ : ∃ k s e, W.rv l 0 0 = (k, s, e) := ⟨_, _, _, rfl⟩
 rw [hh] at h ⊢
 simp only at h
 subst h
 obtain ⟨a, b, c, _⟩ := W.rv_same l k s hh
 exact ⟨a, b, c⟩
theorem number_any (w : World) (q : Nat) (X : Nat -> Prop) (o : Option (List UInt8)) (most : Nat) (h : RdAt w q X o) (hl : (o.getD []).length <= 1000000) (_hm : most < 18446744073709551616) :
 Calls Tryz.prog 61 #[.pointer (some ⟨q, 0, none⟩), .int .u64 (most : Int)] w fun e w' => e = .returned (.int .u64 ((S6.numR o most).1 : Int)) /\ RdAt w' q X (S6.numR o most).2 /\ Mod (fun k => k = q) w w' := by
 obtain ⟨bv, hb, hbs, hbX, hqX⟩ := h
 have c0 : w.cell? ⟨q, 0, none⟩ = some bv := (blk_cell hb 0).trans rfl
 have c1 : w.cell? ⟨q, 1, none⟩ = some (.bool o.isNone) := (blk_cell hb 1).trans rfl
 have f0 := blk_free hb 0
 have f1 := blk_free hb 1
 have hrd := rdvar_any w bv (o.getD []) hbs hl
 have HB := qh hbs
 have HBX := qh hbX
 have HK := qh hb
 by_cases hc : (W.rv (o.getD []) 0 0).2.2 ≠ 0 ∨ most < (W.rv (o.getD []) 0 0).1
 ·have hn : S6.numR o most = (0, none) := by
   unfold S6.numR
   cases o with
   | none => rfl
   | some b =>
    show (match S6.rdNum most b with | none => (0, none) | some (n, r) => (n, some r)) = _
    unfold S6.rdNum
    rw [if_pos (by simpa using hc)]
  rw [hn]
  obtain ⟨a, cap, rfl⟩ := hbs.shape
  have d1 : (w.setCell ⟨q, 0, none⟩ (.slice none 0 0)).cell? ⟨q, 1, none⟩ = some (.bool o.isNone) := (blk_cell (blk_set hb 0 _) 1).trans rfl
  have g1 : (w.setCell ⟨q, 0, none⟩ (.slice none 0 0)).frozen? ⟨q, 1, none⟩ = false := blk_free (blk_set hb 0 _) 1
  have HE := qh (blk_set (blk_set hb 0 (.slice none 0 0)) 1 (.bool true))
  clear hb hbs hbX
  generalize W.rv (o.getD []) 0 0 = rv at *
  obtain ⟨N, S, E⟩ := rv
  simp only at hc hrd
  generalize (o.getD []) = l at *
  go_enter Tryz.func61, Tryz.ntmps61
  go_wp2_with fail
  refine hrd.mono ?_
  rintro e w2 ⟨rfl, rfl⟩
  by_cases hE : E = 0
  ·subst hE
   have hc2 : most < N := by
    rcases hc with h | h
    ·exact absurd rfl h
    ·exact h
   have hc3 : (most : Int) < (N : Int) := by omega
   go_wp2
   go_ret
   exact ⟨rfl, RdAt.of (.slice none 0 0) none HE.out (Bs.nil _) (fun k hk => by simp [Value.ownBlock] at hk) hqX, mod_two w q _ _⟩
  ·have hE2 : ((E : Int) != 0) = true := by rw [bne_iff_ne]; omega
   have hE3 : ¬ (E : Int) = 0 := by omega
   go_wp2
   all_goals go_ret
   exact ⟨rfl, RdAt.of (.slice none 0 0) none HE.out (Bs.nil _) (fun k hk => by simp [Value.ownBlock] at hk) hqX, mod_two w q _ _⟩
 ·cases o with
  | none => exact absurd (.inl (by decide)) hc
  | some b =>
   simp only [Option.getD_some] at hc hrd hl HB
   have hE : (W.rv b 0 0).2.2 = 0 := by
    rcases Nat.eq_zero_or_pos (W.rv b 0 0).2.2 with h | h
    ·exact h
    ·exact absurd (.inl (by omega)) hc
   obtain ⟨k1, k2, k3⟩ := rv_fits b hE
   have hn : S6.numR (some b) most = ((W.rv b 0 0).1, some (b.drop (W.rv b 0 0).2.1)) := by
    show (match S6.rdNum most b with | none => (0, none) | some (n, r) => (n, some r)) = _
    unfold S6.rdNum
    rw [if_neg hc]
   rw [hn]
   have hNm : ¬ most < (W.rv b 0 0).1 := fun h => hc (.inr h)
   rw [hE] at hrd
   clear hn hc hE hbs hbX hb
   generalize hS : (W.rv b 0 0).2.1 = S at *
   generalize (W.rv b 0 0).1 = N at *
   clear hS
   have hNm2 : ¬ (most : Int) < (N : Int) := by omega
   have hNm3 : decide ((most : Int) < (N : Int)) = false := decide_eq_false hNm2
   go_enter Tryz.func61, Tryz.ntmps61
   go_wp2_with fail
   refine hrd.mono ?_
   rintro e w2 ⟨rfl, rfl⟩
   go_wp2_with (first
    | ((with_reducible show wpList _ _ _ (⟨some 36, _, _, _, _, _⟩ :: _) _ _); refine wpl_cut_l _ rfl _ _ rfl bv b (by rfl) HB.out .i64 S (by rfl) k3 ?_; intro y hy hyb; obtain ⟨ya, yc, rfl⟩ := hy.shape; rw [List.length_drop] at hy hyb)
    | fail)
   go_ret
   refine ⟨rfl, RdAt.of _ (some (b.drop S)) (blk_set HK.out 0 _) ?_ (fun k hk => HBX.out k (hyb k hk)) hqX, Mod.setCell w ⟨q, 0, none⟩ _ rfl⟩
   exact Reads.mod hy (Mod.setCell (F := fun k => k = q) w ⟨q, 0, none⟩ _ rfl) (fun k hk e => hqX (e ▸ HBX.out k (hyb k hk)))
theorem bytes_any (w : World) (q : Nat) (X : Nat -> Prop) (o : Option (List UInt8)) (n : Nat) (h : RdAt w q X o) (hl : (o.getD []).length <= 1000000) (_hn : n <= 1000000) :
 Calls Tryz.prog 62 #[.pointer (some ⟨q, 0, none⟩), .int .u64 (n : Int)] w fun e w' => ∃ v', e = .returned v' /\ Bs w' v' (S6.bytR o n).1 /\ (∀ k, v'.ownBlock = some k -> X k) /\ RdAt w' q X (S6.bytR o n).2 /\ Mod (fun k => k = q) w w' := by
 obtain ⟨bv, hb, hbs, hbX, hqX⟩ := h
 have c0 : w.cell? ⟨q, 0, none⟩ = some bv := (blk_cell hb 0).trans rfl
 have c1 : w.cell? ⟨q, 1, none⟩ = some (.bool o.isNone) := (blk_cell hb 1).trans rfl
 have f0 := blk_free hb 0
 have f1 := blk_free hb 1
 have HB := qh hbs
 have HBX := qh hbX
 have HK := qh hb
 have hll : ((o.getD []).length : Int) <= 1000000 := by omega
 have hwl : IntKind.u64.wrap ((o.getD []).length : Int) = ((o.getD []).length : Int) := by rw [IntKind.wrap_u64]; omega
 obtain ⟨a, cap, rfl⟩ := hbs.shape
 by_cases hc : (o.getD []).length < n
 ·have hr : S6.bytR o n = ([], none) := by
   unfold S6.bytR
   cases o with
   | none => rfl
   | some b => exact if_pos hc
  rw [hr]
  have hci : ((o.getD []).length : Int) < (n : Int) := by omega
  have d1 : (w.setCell ⟨q, 0, none⟩ (.slice none 0 0)).cell? ⟨q, 1, none⟩ = some (.bool o.isNone) := (blk_cell (blk_set hb 0 _) 1).trans rfl
  have g1 : (w.setCell ⟨q, 0, none⟩ (.slice none 0 0)).frozen? ⟨q, 1, none⟩ = false := blk_free (blk_set hb 0 _) 1
  have HE := qh (blk_set (blk_set hb 0 (.slice none 0 0)) 1 (.bool true))
  clear hb hbs hbX hr
  generalize (o.getD []) = l at *
  go_enter Tryz.func62, Tryz.ntmps62
  go_wp2
  go_ret
  exact ⟨_, rfl, Bs.nil _, (fun k hk => by simp [Value.ownBlock] at hk), RdAt.of (.slice none 0 0) none HE.out (Bs.nil _) (fun k hk => by simp [Value.ownBlock] at hk) hqX, mod_two w q _ _⟩
 ·have hr : ∃ b, b = o.getD [] /\ S6.bytR o n = ((o.getD []).take n, if o.isNone = true then none else some ((o.getD []).drop n)) := by
   refine ⟨_, rfl, ?_⟩
   unfold S6.bytR
   cases o with
   | none => simp
   | some b => simp at hc ⊢; omega
  obtain ⟨_, _, hr⟩ := hr
  rw [hr]
  have hci : ¬ ((o.getD []).length : Int) < (n : Int) := by omega
  have hcd : decide (((o.getD []).length : Int) < (n : Int)) = false := decide_eq_false hci
  clear hb hbs hbX hr
  have hng : Hid (∀ (y : Value) (w' : World), Bs w' y ((o.getD []).drop n) -> (∀ z, y.ownBlock = some z -> X z) -> w'.heap[q]? = some (.cells [y, .bool o.isNone].toArray 143 (0, 0)) -> RdAt w' q X (if o.isNone = true then none else some ((o.getD []).drop n))) := fun y w' h1 h2 h3 => by
   cases o with
   | none => exact RdAt.of y none h3 (by simpa using h1) h2 hqX
   | some b => exact RdAt.of y (some (b.drop n)) h3 h1 h2 hqX
  have hkn : n <= (o.getD []).length := by omega
  generalize (if o.isNone = true then none else some ((o.getD []).drop n)) = O2 at *
  generalize hbad : o.isNone = bad at *
  generalize (o.getD []) = l at *
  go_enter Tryz.func62, Tryz.ntmps62
  go_wp2_with (first
   | ((with_reducible show wpList _ _ _ (⟨some 26, _, _, _, _, _⟩ :: _) _ _); refine wpl_cut_hm _ rfl _ _ _ rfl (.slice a l.length cap) l (by rfl) HB.out .u64 n (by rfl) (by rfl) hkn ?_; intro y1 hy1 hyb1; obtain ⟨y1a, y1c, rfl⟩ := hy1.shape; rw [List.length_take, Nat.min_eq_left hkn] at hy1 hyb1)
   | ((with_reducible show wpList _ _ _ (⟨some 33, _, _, _, _, _⟩ :: _) _ _); refine wpl_cut_l _ rfl _ _ rfl (.slice a l.length cap) l (by rfl) HB.out .u64 n (by rfl) hkn ?_; intro y hy hyb; obtain ⟨ya, yc, rfl⟩ := hy.shape; rw [List.length_drop] at hy hyb)
   | fail)
  go_ret
  have hm := Mod.setCell (F := fun k => k = q) w ⟨q, 0, none⟩ (.slice ya (l.length - n) yc) rfl
  refine ⟨.slice y1a n y1c, rfl, Reads.mod hy1 hm (fun k hk e => hqX (e ▸ HBX.out k (hyb1 k hk))), fun k hk => HBX.out k (hyb1 k hk), hng.out _ _ (Reads.mod hy hm (fun k hk e => hqX (e ▸ HBX.out k (hyb k hk)))) (fun k hk => HBX.out k (hyb k hk)) (blk_set HK.out 0 _), hm⟩
theorem el_wr : Elem 48 58 4 56 := elem_of Tryz.underlying48 (by decide) (by decide) (by kernel_rfl)
section
variable {ops : Array Oper} {rest : List Oper} {o : Oper} {a : Act} {Q : Exit -> Act -> World -> Prop}
theorem wpl_appg {t e : TypeId} {size bytes : Nat} (E : Elem t e size bytes) (base : Nat) (w : World) (hW : base <= w.heap.size) (hgd : o.guard = none) (s x : Operand) (ho : o.op = .call { callee := .builtin .append, args := #[s, x], argTypes := #[t, t] })
 (v : Value) (n : Nat) (xs : List Value) (hs : a.eval s = v) (hown : w.ownsRow base e size v n xs) (y : Value) (m : Nat) (ys : List Value) (hx : a.eval x = y) (hr : ReadsN size w y m ys) (hb : (n + m) * bytes <= 1000000000000)
 (hn : n + m <= 1000000000000) (h : ∀ v' w', w'.ownsRow base e size v' (n + m) (xs ++ ys) -> w.grownBy w' v.ownBlock -> wpList Tryz.prog ops Q rest (a.put o.dst v') w') : wpList Tryz.prog ops Q (o :: rest) a w := by
 obtain ⟨i, z, hi, hz, h1, h2, h3⟩ := E.info
 obtain ⟨b, cap, rfl, g1, g2, g3, g4, g5, g6⟩ := hr
 cases b with
 | none =>
  obtain rfl : cap = 0 := g4 rfl
  obtain rfl : m = 0 := by omega
  obtain rfl : ys = [] := List.eq_nil_of_length_eq_zero (by rw [g1, Nat.zero_mul])
  exact wpList_append_own_none hgd s x t ho base e i size E.und hi v n xs hs hown hx (h v w (by simpa using hown) (World.grownBy.refl _ _))
 | some ad =>
  refine wpList_append_own w hgd s x t ho base e i z size bytes E.und hi hz h1 h2 h3 E.pos v n xs hs hown ad m cap ys hx g1 ?_ g5 (by unfold maxLen; omega) (by omega) hW (fun v' w' h4 h5 _ => h v' w' h4 h5)
  intro j u hj
  rcases g6 with rfl | ⟨b, off, hb, hc⟩
  ·rw [Nat.zero_mul] at g1; rw [List.eq_nil_of_length_eq_zero g1] at hj; cases hj
  ·obtain rfl := Option.some.inj hb
   rw [Addr.add_lit]; exact hc j u hj
end
namespace S6
theorem numR_le (o : Option (List UInt8)) (most : Nat) : (numR o most).1 <= most /\ ((numR o most).2.getD []).length <= (o.getD []).length := by
 unfold numR
 cases h : o.bind (rdNum most) with
 | none => simp
 | some p =>
  obtain ⟨n, r⟩ := p
  cases o with
  | none => cases h
  | some b => exact rdNum_le h
theorem bytR_le (o : Option (List UInt8)) (n : Nat) : ((bytR o n).2.getD []).length <= (o.getD []).length /\ (bytR o n).1.length <= n := by
 unfold bytR
 cases o with
 | none => simp
 | some b =>
  simp only
  split
  ·simp
  ·simp; omega
def textR (o : Option (List UInt8)) (most : Nat) : List UInt8 × Option (List UInt8) := bytR (numR o most).2 (numR o most).1
theorem textR_some (b : List UInt8) (most : Nat) : textR (some b) most = match rdText most b with
 | none => ([], none)
 | some (t, r) => (t, some r) := by
 unfold textR rdText numR
 show bytR (match rdNum most b with | none => (0, none) | some (n, r) => (n, some r)).2 (match rdNum most b with | none => (0, none) | some (n, r) => (n, some r)).1 = _
 cases rdNum most b with
 | none => rfl
 | some p =>
  obtain ⟨n, r⟩ := p
  simp only
  unfold bytR
  simp only
  split <;> rfl
theorem numR_some (b : List UInt8) (most : Nat) : numR (some b) most = match rdNum most b with
 | none => (0, none)
 | some (n, r) => (n, some r) := rfl
def wrR2 (k : List UInt8) (f : Nat × Option (List UInt8)) : List UInt8 × Nat × List UInt8 × Option (List UInt8) := if f.1 = 1 then (k, 1, (textR f.2 4000).1, (textR f.2 4000).2) else (k, f.1, [], f.2)
def wrR1 (k : List UInt8 × Option (List UInt8)) : List UInt8 × Nat × List UInt8 × Option (List UInt8) := wrR2 k.1 (numR k.2 1)
def wrR (b : List UInt8) : List UInt8 × Nat × List UInt8 × Option (List UInt8) := wrR1 (textR (some b) 32)
def wrRes (x : List UInt8 × Nat × List UInt8 × Option (List UInt8)) : Option (Wr × List UInt8) := match x.2.2.2 with
 | none => none
 | some r => if x.1 = [] then none else some (⟨x.1, x.2.2.1, decide (x.2.1 ≠ 1), 0⟩, r)
theorem wrR_spec (b : List UInt8) : rdWr b = wrRes (wrR b) := by
 unfold rdWr wrR
 rw [textR_some]
 cases h1 : rdText 32 b with
 | none => rfl
 | some p =>
  obtain ⟨k, r⟩ := p
  simp only
  show _ = wrRes (wrR2 k (numR (some r) 1))
  rw [numR_some]
  cases h2 : rdNum 1 r with
  | none => rfl
  | some p2 =>
   obtain ⟨f, r2⟩ := p2
   simp only
   by_cases hf : f = 1
   ·subst hf
    have e : wrR2 k (1, some r2) = (k, 1, (textR (some r2) 4000).1, (textR (some r2) 4000).2) := rfl
    rw [e, if_pos rfl, textR_some]
    unfold wrRes
    cases h3 : rdText 4000 r2 with
    | none => simp only; split <;> rfl
    | some p3 =>
     obtain ⟨v, r3⟩ := p3
     simp
   ·have e : wrR2 k (f, some r2) = (k, f, [], some r2) := by unfold wrR2; rw [if_neg hf]
    rw [e, if_neg hf]
    unfold wrRes
    simp [hf]
end S6
end Go.Proofs.YtnjfioikpajhlaaGreat
namespace Go.Proofs.YtnjfioikpajhlaaGreat
open Go.RowKit Go.Shelf
namespace S6
def RInv (b : List UInt8) (n c k : Nat) (ws : List Wr) (o : Option (List UInt8)) : Prop := ws.length = k /\ k <= c /\ c <= 64 /\ (o.getD []).length <= b.length /\
 match o with
 | none => c = 0 /\ readB b = none
 | some r => readB b = match rdWrs (c - k) r with
  | none => none
  | some (xs, r3) => if r3 = [] then some (n, ws ++ xs) else none
theorem rdWrs_succ (n : Nat) (b : List UInt8) : rdWrs (n + 1) b = match rdWr b with
 | none => none
 | some (x, r) => match rdWrs n r with
  | none => none
  | some (xs, r2) => some (x :: xs, r2) := rfl
theorem RInv.start (b : List UInt8) : RInv b (numR (some b) lastN).1 (numR (numR (some b) lastN).2 64).1 0 [] (numR (numR (some b) lastN).2 64).2 := by
 have h1 := numR_le (some b) lastN
 have h2 := numR_le (numR (some b) lastN).2 64
 refine ⟨rfl, Nat.zero_le _, h2.1, by simp only [Option.getD_some] at h1; omega, ?_⟩
 clear h1 h2
 rw [numR_some]
 unfold readB
 cases e1 : rdNum lastN b with
 | none => exact ⟨rfl, rfl⟩
 | some p =>
  obtain ⟨n, r⟩ := p
  simp only [numR_some]
  cases e2 : rdNum 64 r with
  | none => exact ⟨rfl, rfl⟩
  | some p2 =>
   obtain ⟨c, r2⟩ := p2
   simp only [Nat.sub_zero, List.nil_append]
   cases rdWrs c r2 <;> rfl
theorem RInv.step {b : List UInt8} {n c k : Nat} {ws : List Wr} {r r' : List UInt8} {x : Wr} (h : RInv b n c k ws (some r)) (hk : k < c) (hx : rdWr r = some (x, r')) : RInv b n c (k + 1) (ws ++ [x]) (some r') := by
 obtain ⟨h1, h2, h3, h4, h5⟩ := h
 have hl := (rdWr_ok hx).2.2
 refine ⟨by rw [List.length_append, h1]; rfl, by omega, h3, Nat.le_trans hl h4, ?_⟩
 simp only at h5 ⊢
 rw [h5]
 obtain ⟨d, hd⟩ : ∃ d, c - k = d + 1 := ⟨c - k - 1, by omega⟩
 have hd2 : c - (k + 1) = d := by omega
 rw [hd, hd2, rdWrs_succ, hx]
 simp only
 cases e : rdWrs d r' with
 | none => rfl
 | some p => simp
theorem RInv.stop {b : List UInt8} {n c k : Nat} {ws : List Wr} {r : List UInt8} (h : RInv b n c k ws (some r)) (hk : k < c) (hx : rdWr r = none) : readB b = none := by
 obtain ⟨h1, h2, h3, h4, h5⟩ := h
 simp only at h5
 rw [h5]
 obtain ⟨d, hd⟩ : ∃ d, c - k = d + 1 := ⟨c - k - 1, by omega⟩
 rw [hd, rdWrs_succ, hx]
theorem RInv.done {b : List UInt8} {n c : Nat} {ws : List Wr} {o : Option (List UInt8)} (h : RInv b n c c ws o) : readB b = if o = some [] then some (n, ws) else none := by
 obtain ⟨h1, h2, h3, h4, h5⟩ := h
 cases o with
 | none => rw [if_neg (by simp)]; exact h5.2
 | some r =>
  simp only at h5
  rw [h5, Nat.sub_self]
  simp [rdWrs]
end S6
def ReadE (w w' : World) (X : Nat -> Prop) (r : Option (Nat × List S6.Wr)) (e : Ending) : Prop :=
 ∃ (n : Nat) (v' : Value), e = .returned (.tuple #[.int .u64 (n : Int), v', .bool r.isSome]) /\ Ext w w' /\ ∀ m ws, r = some (m, ws) -> n = m /\ WrsIn w' (New X w w') v' ws
theorem beq_int0 (n : Nat) : ((n : Int) == 0) = decide (n = 0) := by rw [Bool.eq_iff_iff]; simp
theorem RdAt.mod {F X : Nat -> Prop} {w w' : World} {q : Nat} {o : Option (List UInt8)} (h : RdAt w q X o) (hm : Mod F w w') (hF : ∀ k, X k -> ¬ F k) (hq : ¬ F q) : RdAt w' q X o :=
 let ⟨bv, h1, h2, h3, h4⟩ := h
 ⟨bv, blk_mod h1 hm hq, Reads.mod h2 hm (fun k hk => hF k (h3 k hk)), h3, h4⟩
structure RL (w wr : World) (X : Nat -> Prop) (b : List UInt8) (n c k : Nat) (ws : List S6.Wr) (us : List Value) (o : Option (List UInt8)) (lv : Value) : Prop where
 inv : S6.RInv b n c k ws o
 rd : RdAt wr w.heap.size X o
 ul : us.length = ws.length
 vals : ∀ i (h : i < ws.length) (k : i < us.length), Bs wr us[i] ws[i].val /\ ∀ b, us[i].ownBlock = some b -> X b
 own : wr.ownsRow w.heap.size 58 4 lv k (wrcs ws us)
 ext : Ext w wr
theorem RL.apart {w wr : World} {X : Nat -> Prop} {b : List UInt8} {n c k : Nat} {ws : List S6.Wr} {us : List Value} {o : Option (List UInt8)} {lv : Value} (h : RL w wr X b n c k ws us o lv) : ∀ z, lv.ownBlock = some z -> ¬ (z = w.heap.size ∨ wr.heap.size <= z) := by
 rintro z hz (rfl | h2)
 ·obtain ⟨cs, fr, h1⟩ := own_at h.own hz
  obtain ⟨bv, h2, _⟩ := h.rd
  rw [h1] at h2
  have h3 : (58 : Nat) = 143 := by injection (Option.some.inj h2)
  exact absurd h3 (by decide)
 ·have := (h.own.lt z hz).2; omega
theorem RL.push {w wr w7 w8 : World} {X : Nat -> Prop} {b : List UInt8} {n c k : Nat} {ws : List S6.Wr} {us : List Value} {r r' : List UInt8} {lv lv' u : Value} {x : S6.Wr} (h : RL w wr X b n c k ws us (some r) lv) (hXw : ∀ k, X k -> k < w.heap.size) (hk : k < c) (hx : S6.rdWr r = some (x, r'))
 (hm : Mod (fun z => z = w.heap.size ∨ wr.heap.size <= z) wr w7) (hrd : RdAt w7 w.heap.size X (some r')) (hu : Bs w7 u x.val) (huX : ∀ z, u.ownBlock = some z -> X z)
 (hown : w8.ownsRow w.heap.size 58 4 lv' (k + 1) (wrcs ws us ++ wrc x u)) (hg : w7.grownBy w8 lv.ownBlock) : RL w w8 X b n c (k + 1) (ws ++ [x]) (us ++ [u]) (some r') lv' := by
 have hap := h.apart
 have hws := h.ext.size
 have hnX : ∀ z, X z -> ¬ (z = w.heap.size ∨ wr.heap.size <= z) := fun z hz => by have := hXw z hz; omega
 have hown7 := ownsRow_mod h.own hm (fun z hz => hap z hz)
 have hm2 : Mod (fun z => lv.ownBlock = some z) w7 w8 := Mod.grown hg (fun z e _ => e)
 have hnX2 : ∀ z, X z -> ¬ lv.ownBlock = some z := fun z hz e => by have := (h.own.lt z e).1; have := hXw z hz; omega
 refine ⟨h.inv.step hk hx, hrd.mod hm2 hnX2 (fun e => hap _ e (.inl rfl)), by rw [List.length_append, List.length_append, h.ul]; rfl, fun i a c => ?_, ?_, ?_⟩
 ·rcases Nat.lt_or_ge i ws.length with hi | hi
  ·have hi2 : i < us.length := by rw [h.ul]; exact hi
   rw [List.getElem_append_left hi2, List.getElem_append_left hi]
   obtain ⟨h1, h2⟩ := h.vals i hi hi2
   exact ⟨Reads.mod (Reads.mod h1 hm (fun z hz => hnX z (h2 z hz))) hm2 (fun z hz => hnX2 z (h2 z hz)), h2⟩
  ·have hi3 : i = ws.length := by simp at a; omega
   subst hi3
   have e1 : (us ++ [u])[ws.length]'c = u := by simp [<- h.ul]
   have e2 : (ws ++ [x])[ws.length]'a = x := by simp
   rw [e1, e2]
   exact ⟨Reads.mod hu hm2 (fun z hz => hnX2 z (huX z hz)), huX⟩
 ·rw [wrcs_append _ _ _ _ h.ul]
  simpa [wrcs] using hown
 ·exact Mod.ext (Mod.ext h.ext hm (fun z hz => by omega)) hm2 (fun z hz => (h.own.lt z hz).1)
theorem RL.wrs {w wr : World} {X : Nat -> Prop} {b : List UInt8} {n c k : Nat} {ws : List S6.Wr} {us : List Value} {o : Option (List UInt8)} {lv : Value} (h : RL w wr X b n c k ws us o lv) : WrsIn wr (New X w wr) lv ws := by
 have hone : ∀ u ∈ us, u.oneCell' = true := fun u hu => by
  obtain ⟨i, hi, rfl⟩ := List.getElem_of_mem hu
  exact (h.vals i (by rw [<- h.ul]; exact hi) hi).1.oneCell
 refine ⟨us, h.ul, fun i a c => ⟨(h.vals i a c).1, fun z hz => .inl ((h.vals i a c).2 z hz)⟩, ?_, own_new h.own (Nat.le_refl _)⟩
 have := ReadsN.of_own h.own (wrcs_one ws us hone)
 rw [<- h.inv.1] at this
 exact this
theorem sread_any (w : World) (X : Nat -> Prop) (v : Value) (b : List UInt8) (h : Bs w v b) (hX : ∀ k, v.ownBlock = some k -> X k) (hXw : ∀ k, X k -> k < w.heap.size) (hl : b.length <= 1000000) :
 Calls Tryz.prog 28 #[v] w fun e w' => ReadE w w' X (S6.readB b) e := by
 obtain ⟨va, vc, rfl⟩ := h.shape
 have hx1 := Ext.of_alloc w (.cells #[.slice va b.length vc, .bool false] 143)
 have hq : ¬ X w.heap.size := fun e => Nat.lt_irrefl _ (hXw _ e)
 have hR1 : RdAt (w.alloc (.cells #[.slice va b.length vc, .bool false] 143)) w.heap.size X (some b) := RdAt.of (.slice va b.length vc) (some b) (heap_alloc_new w _) (h.ext hx1) hX hq
 have HX1 := qh hx1
 have hN1 := qh (number_any _ _ X (some b) S6.lastN hR1 hl (by decide))
 have HI := qh (S6.RInv.start b)
 have l1 := S6.numR_le (some b) S6.lastN
 have l2 := S6.numR_le (S6.numR (some b) S6.lastN).2 64
 simp only [Option.getD_some] at l1
 obtain ⟨n, o1, e1⟩ : ∃ n o1, S6.numR (some b) S6.lastN = (n, o1) := ⟨_, _, rfl⟩
 rw [e1] at hN1 HI l1 l2
 obtain ⟨c, o2, e2⟩ : ∃ c o2, S6.numR o1 64 = (c, o2) := ⟨_, _, rfl⟩
 simp only at hN1 HI l1 l2
 rw [e2] at HI l2
 simp only at HI l2
 clear hx1 h hR1 e1
 unfold ReadE
 generalize hres : S6.readB b = res at *
 have HRes := qh hres
 clear hres
 go_enter Tryz.func28, Tryz.ntmps28
 go_wp2_with fail
 refine hN1.out.mono ?_
 rintro e w2 ⟨rfl, hR2, hm2⟩
 have HX2 := qh (Mod.ext HX1.out hm2 (fun k hk => by omega))
 have hN2 := qh (number_any w2 _ X o1 64 hR2 (by omega) (by decide))
 rw [e2] at hN2
 clear hm2 hR2 hN1 e2
 go_wp2_with fail
 refine hN2.out.mono ?_
 rintro e w3 ⟨rfl, hR3, hm3⟩
 have HX3 := qh (Mod.ext HX2.out hm3 (fun k hk => by omega))
 have HR3 := qh hR3
 clear hm3 hR3 hN2 HX1 HX2
 simp only
 have hci : (c : Int) <= 64 := by omega
 go_wp2
 go_loopw [7, 17] (fun lv iv wr => ∃ (k : Nat) (ws : List S6.Wr) (us : List Value) (o : Option (List UInt8)), k <= c /\ iv = .int .u64 (k : Int) /\ Hid (RL w wr X b n c k ws us o lv)) (fun _ iv _ => c - (intOf iv).toNat)
 case atStart => exact ⟨0, [], [], o2, by omega, rfl, ⟨HI.out, HR3.out, rfl, fun i h => absurd h (Nat.not_lt_zero _), World.ownsRow_nil _ _ _ _, HX3.out⟩⟩
 case round =>
  obtain ⟨k, ws, us, o, hk, rfl, hL⟩ := hrel
  clear HI HR3 HX3
  by_cases hlt : k < c
  ·have hlti : (k : Int) < (c : Int) := by omega
   obtain ⟨r, rfl⟩ : ∃ r, o = some r := by
    cases o with
    | none => have := hL.out.inv.2.2.2.2.1; omega
    | some r => exact ⟨r, rfl⟩
   obtain ⟨n1, o3, e3⟩ : ∃ n1 o3, S6.numR (some r) 32 = (n1, o3) := ⟨_, _, rfl⟩
   obtain ⟨kb, o4, e4⟩ : ∃ kb o4, S6.bytR o3 n1 = (kb, o4) := ⟨_, _, rfl⟩
   obtain ⟨f, o5, e5⟩ : ∃ f o5, S6.numR o4 1 = (f, o5) := ⟨_, _, rfl⟩
   have q0 : r.length <= 1000000 := by have := hL.out.inv.2.2.2.1; simp only [Option.getD_some] at this; omega
   have q1 := S6.numR_le (some r) 32
   have q2 := S6.bytR_le o3 n1
   have q3 := S6.numR_le o4 1
   rw [e3] at q1
   rw [e4] at q2
   rw [e5] at q3
   try simp only [Option.getD_some] at q1
   have hW : S6.wrR r = S6.wrR2 kb (f, o5) := by
    have : S6.textR (some r) 32 = (kb, o4) := by
     show S6.bytR (S6.numR (some r) 32).2 (S6.numR (some r) 32).1 = _
     rw [e3]; exact e4
    unfold S6.wrR
    rw [this]
    show S6.wrR2 kb (S6.numR o4 1) = _
    rw [e5]
   have hspec := S6.wrR_spec r
   rw [hW] at hspec
   have HSP := qh hspec
   clear hW hspec
   have hrd0 := hL.out.rd
   have hN3 := qh (number_any wr _ X (some r) 32 hrd0 (by simpa using q0) (by decide))
   rw [e3] at hN3
   have hnX : ∀ z, X z -> ¬ (z = w.heap.size ∨ wr.heap.size <= z) := fun z hz => by have := hXw z hz; have := hL.out.ext.size; omega
   have HNX := qh hnX
   clear hrd0 e3 hnX
   go_wp2_with fail
   refine hN3.out.mono ?_
   clear hN3
   rintro e w4 ⟨rfl, hR4, hm4⟩
   have HM4 := qh (show Mod (fun z => z = w.heap.size ∨ wr.heap.size <= z) wr w4 from hm4.mono (fun z hz => .inl hz))
   have hB4 := qh (bytes_any w4 _ X o3 n1 hR4 (by omega) (by omega))
   rw [e4] at hB4
   clear hR4 hm4 e4
   try simp only
   go_wp2_with fail
   refine hB4.out.mono ?_
   clear hB4
   rintro e w5 ⟨kv, rfl, hk5, -, hR5, hm5⟩
   have HM5 := qh (HM4.out.trans (show Mod (fun z => z = w.heap.size ∨ wr.heap.size <= z) w4 w5 from hm5.mono (fun z hz => .inl hz)) (fun _ _ h => h))
   try simp only at hk5 hR5
   have cv := Bs.toString (P := Tryz.prog) hk5 56 9 5 Tryz.underlying56 Tryz.underlying5 Tryz.underlying9
   obtain ⟨ka, kc, rfl⟩ := hk5.shape
   have hx6 := Ext.of_alloc w5 (.cells #[.string ⟨kb.toArray⟩, .slice none 0 0, .bool true, .int .u64 0] 58)
   have HM6 := qh (HM5.out.trans (Mod.of_ext hx6) (fun _ _ h => h))
   have hN6 := qh (number_any _ _ X o4 1 (hR5.mod (F := fun _ => False) (Mod.of_ext hx6) (fun _ _ h => h) (fun h => h)) (by omega) (by decide))
   rw [e5] at hN6
   have hb6 : (w5.alloc (.cells #[.string ⟨kb.toArray⟩, .slice none 0 0, .bool true, .int .u64 0] 58)).heap[w5.heap.size]? = some (.cells [.string ⟨kb.toArray⟩, .slice none 0 0, .bool true, .int .u64 0].toArray 58 (0, 0)) := heap_alloc_new w5 _
   have hp2 : wr.heap.size <= w5.heap.size := HM5.out.size
   have hp2q : ¬ w5.heap.size = w.heap.size := by have := hL.out.ext.size; have := blk_lt (hL.out.rd.choose_spec.1); omega
   clear hk5 hm5 hR5 e5 HM4 HM5 hx6
   --@@SECOND
   go_wp2_with fail
   refine hN6.out.mono ?_
   clear hN6
   rintro e w7 ⟨rfl, hR7, hm7⟩
   have HM7 := qh (HM6.out.trans (show Mod (fun z => z = w.heap.size ∨ wr.heap.size <= z) _ w7 from hm7.mono (fun z hz => .inl hz)) (fun _ _ h => h))
   have hb7 := blk_mod hb6 hm7 hp2q
   try simp only at hR7
   clear hb6 hm7 HM6
   by_cases hf : f = 1
   ·subst hf
    obtain ⟨n4, o6, e6⟩ : ∃ n4 o6, S6.numR o5 4000 = (n4, o6) := ⟨_, _, rfl⟩
    obtain ⟨vb, o7, e7⟩ : ∃ vb o7, S6.bytR o6 n4 = (vb, o7) := ⟨_, _, rfl⟩
    have q4 := S6.numR_le o5 4000
    rw [e6] at q4
    try simp only at q4
    have hw2 : S6.wrR2 kb (1, o5) = (kb, 1, vb, o7) := by
     have : S6.textR o5 4000 = (vb, o7) := by
      show S6.bytR (S6.numR o5 4000).2 (S6.numR o5 4000).1 = _
      rw [e6]; exact e7
     unfold S6.wrR2
     rw [if_pos rfl, this]
    rw [hw2] at HSP
    clear hw2
    have g2 : w7.cell? ⟨w5.heap.size, 2, none⟩ = some (.bool true) := (blk_cell hb7 2).trans rfl
    have f2 := blk_free hb7 2
    have hb8 := blk_set hb7 2 (.bool false)
    have hms := Mod.setCell (F := fun z => z = w5.heap.size) w7 ⟨w5.heap.size, 2, none⟩ (.bool false) rfl
    have hR8 := hR7.mod hms (fun z hz e => HNX.out z hz (.inr (by omega))) (fun e => hp2q e.symm)
    have HM8 := qh (HM7.out.trans (show Mod (fun z => z = w.heap.size ∨ wr.heap.size <= z) _ _ from hms.mono (fun z hz => .inr (by omega))) (fun _ _ h => h))
    have hN8 := qh (number_any _ _ X o5 4000 hR8 (by omega) (by decide))
    rw [e6] at hN8
    clear hb7 hms hR8 hR7 HM7 e6
    go_wp2_with fail
    refine hN8.out.mono ?_
    clear hN8 g2 f2
    rintro e w9 ⟨rfl, hR9, hm9⟩
    have hb9 := blk_mod hb8 hm9 hp2q
    have HM9 := qh (HM8.out.trans (show Mod (fun z => z = w.heap.size ∨ wr.heap.size <= z) _ w9 from hm9.mono (fun z hz => .inl hz)) (fun _ _ h => h))
    have hB9 := qh (bytes_any w9 _ X o6 n4 hR9 (by omega) (by omega))
    rw [e7] at hB9
    clear hb8 hm9 hR9 HM8 e7
    try simp only
    go_wp2_with fail
    refine hB9.out.mono ?_
    clear hB9
    rintro e wA ⟨vv, rfl, hvA, hvX, hRA, hmA⟩
    have hbA := blk_mod hb9 hmA hp2q
    have HMA := qh (HM9.out.trans (show Mod (fun z => z = w.heap.size ∨ wr.heap.size <= z) _ wA from hmA.mono (fun z hz => .inl hz)) (fun _ _ h => h))
    try simp only at hvA hRA
    obtain ⟨va1, vc1, rfl⟩ := hvA.shape
    have g1 : wA.cell? ⟨w5.heap.size, 1, none⟩ = some (.slice none 0 0) := (blk_cell hbA 1).trans rfl
    have f1 := blk_free hbA 1
    have hbB : (wA.setCell ⟨w5.heap.size, 1, none⟩ (.slice va1 vb.length vc1)).heap[w5.heap.size]? = some (.cells [.string ⟨kb.toArray⟩, .slice va1 vb.length vc1, .bool false, .int .u64 0].toArray 58 (0, 0)) := blk_set hbA 1 _
    have hms := Mod.setCell (F := fun z => z = w5.heap.size) wA ⟨w5.heap.size, 1, none⟩ (.slice va1 vb.length vc1) rfl
    have hRB := hRA.mod hms (fun z hz e => HNX.out z hz (.inr (by omega))) (fun e => hp2q e.symm)
    have hvB : Bs (wA.setCell ⟨w5.heap.size, 1, none⟩ (.slice va1 vb.length vc1)) (.slice va1 vb.length vc1) vb := Reads.mod hvA hms (fun z hz e => HNX.out z (hvX z hz) (.inr (by omega)))
    have HMB := qh (HMA.out.trans (show Mod (fun z => z = w.heap.size ∨ wr.heap.size <= z) _ _ from hms.mono (fun z hz => .inr (by omega))) (fun _ _ h => h))
    go_upto_region 11 with fail
    obtain ⟨wB, hwB⟩ : ∃ wB, wB = wA.setCell ⟨w5.heap.size, 1, none⟩ (.slice va1 vb.length vc1) := ⟨_, rfl⟩
    rw [<- hwB] at hbB hRB hvB HMB ⊢
    clear hwB hms hRA hvA hbA hb9 HMA HM9 hmA g1 f1 q4
    have HRDwB := qh hRB
    have HBwB := qh hbB
    have HBSwB := qh hvB
    have HVXwB := qh hvX
    have k0 : wB.cell? ⟨w5.heap.size, 0, none⟩ = some (.string ⟨kb.toArray⟩) := (blk_cell HBwB.out 0).trans rfl
    have k1 : wB.cell? ⟨w5.heap.size, 1, none⟩ = some (.slice va1 vb.length vc1) := (blk_cell HBwB.out 1).trans rfl
    have k2 : wB.cell? ⟨w5.heap.size, 2, none⟩ = some (.bool false) := (blk_cell HBwB.out 2).trans rfl
    have k3 : wB.cell? ⟨w5.heap.size, 3, none⟩ = some (.int .u64 0) := (blk_cell HBwB.out 3).trans rfl
    have HXE := qh (Mod.ext hL.out.ext HMB.out (fun z hz => by have := hL.out.ext.size; omega))
    clear hbB hRB hvB hvX
    by_cases hkb : kb = []
    ·have hnone : S6.rdWr r = none := by
      rw [HSP.out]
      unfold S6.wrRes
      cases o7 with
      | none => rfl
      | some r' => simp only; rw [if_pos hkb]
     have hr0 := hL.out.inv.stop hlt hnone
     rw [HRes.out] at hr0
     have HR0 := qh hr0
     subst hkb
     clear hnone hr0 k1 k2 k3
     go_wp2
     go_ret3
     exact ⟨0, .slice none 0 0, by rw [HR0.out]; rfl, HXE.out, fun m ws' h9 => by rw [HR0.out] at h9; cases h9⟩
    ·have hke : (kb == ([] : List UInt8)) = false := by rw [beq_eq_false_iff_ne]; exact hkb
     have hke2 : ¬ (kb = []) := hkb
     obtain ⟨bv, hblk, -, -, -⟩ := id HRDwB.out
     have d1 : wB.cell? ⟨w.heap.size, 1, none⟩ = some (.bool o7.isNone) := (blk_cell hblk 1).trans rfl
     clear hblk
     cases o7 with
     | none =>
      have hnone : S6.rdWr r = none := by rw [HSP.out]; rfl
      have hr0 := hL.out.inv.stop hlt hnone
      rw [HRes.out] at hr0
      have HR0 := qh hr0
      clear hnone hr0 k1 k2 k3
      simp only [Option.isNone_none] at d1
      go_wp2
      go_ret3
      exact ⟨0, .slice none 0 0, by rw [HR0.out]; rfl, HXE.out, fun m ws' h9 => by rw [HR0.out] at h9; cases h9⟩
     | some r' =>
      simp only [Option.isNone_some] at d1
      have HWX := qh (show S6.rdWr r = some (⟨kb, vb, false, 0⟩, r') by
       rw [HSP.out]; unfold S6.wrRes; simp only; rw [if_neg hkb]; simp)
      have hap := hL.out.apart
      have hown0 := ownsRow_mod hL.out.own HMB.out (fun z hz => hap z hz)
      have HO0 := qh hown0
      have hsz : w.heap.size <= (wB.alloc (.cells #[.string ⟨kb.toArray⟩, (.slice va1 vb.length vc1), .bool false, .int .u64 0] 58)).heap.size := Nat.le_trans HXE.out.size (Ext.of_alloc _ _).size
      have hrow := ReadsN.row 4 wB [.string ⟨kb.toArray⟩, (.slice va1 vb.length vc1), .bool false, .int .u64 0] 58 1 rfl (by unfold maxLen; omega) (by simp [Value.oneCell'])
      clear hap hown0
      go_wp2_with (first
       | ((with_reducible show wpList _ _ _ (⟨some 45, _, _, _, _, _⟩ :: _) _ _); refine wpl_build1 el_wr _ rfl _ rfl (.agg #[.string ⟨kb.toArray⟩, (.slice va1 vb.length vc1), .bool false, .int .u64 0]) rfl (by rfl) ?_)
       | ((with_reducible show wpList _ _ _ (⟨some 46, _, _, _, _, _⟩ :: _) _ _); refine wpl_appg el_wr w.heap.size _ hsz rfl _ _ rfl u7 k _ (by rfl) ((Ext.of_alloc wB _).keptOwn HO0.out) (.slice (some ⟨wB.heap.size, 0, none⟩) 1 1) 1 _ (by rfl) hrow (by omega) (by omega) ?_; intro v8 w9 hown9 hg9)
       | fail)
      have hxa := Ext.of_alloc wB (.cells #[.string ⟨kb.toArray⟩, (.slice va1 vb.length vc1), .bool false, .int .u64 0] 58)
      have HL9 := qh (hL.out.push (x := ⟨kb, vb, false, 0⟩) hXw hlt HWX.out (HMB.out.trans (Mod.of_ext hxa) (fun _ _ h => h)) (HRDwB.out.mod (F := fun _ => False) (Mod.of_ext hxa) (fun _ _ h => h) (fun h => h)) (Bs.ext HBSwB.out hxa) HVXwB.out hown9 hg9)
      refine ⟨⟨k + 1, _, _, _, by omega, by go_num, HL9⟩, by simp [intOf]; omega⟩
   ·have hf2 : ((f : Int) == 1) = false := by rw [beq_eq_false_iff_ne]; omega
    have hf3 : ¬ ((f : Int) = 1) := by omega
    have hw2 : S6.wrR2 kb (f, o5) = (kb, f, [], o5) := by unfold S6.wrR2; rw [if_neg hf]
    rw [hw2] at HSP
    clear hw2
    have hdt : decide (f ≠ 1) = true := by simpa using hf
    have HDT := qh hdt
    clear hdt
    go_upto_region 11 with fail
    have HRDw7 := qh hR7
    have HBw7 := qh hb7
    have HBSw7 := qh (Bs.nil w7)
    have HVXw7 := qh (show ∀ z, (Value.slice none 0 0).ownBlock = some z -> X z from fun z hz => by simp [Value.ownBlock] at hz)
    have k0 : w7.cell? ⟨w5.heap.size, 0, none⟩ = some (.string ⟨kb.toArray⟩) := (blk_cell HBw7.out 0).trans rfl
    have k1 : w7.cell? ⟨w5.heap.size, 1, none⟩ = some (.slice none 0 0) := (blk_cell HBw7.out 1).trans rfl
    have k2 : w7.cell? ⟨w5.heap.size, 2, none⟩ = some (.bool true) := (blk_cell HBw7.out 2).trans rfl
    have k3 : w7.cell? ⟨w5.heap.size, 3, none⟩ = some (.int .u64 0) := (blk_cell HBw7.out 3).trans rfl
    have HXE := qh (Mod.ext hL.out.ext HM7.out (fun z hz => by have := hL.out.ext.size; omega))
    clear hb7 hR7
    by_cases hkb : kb = []
    ·have hnone : S6.rdWr r = none := by
      rw [HSP.out]
      unfold S6.wrRes
      cases o5 with
      | none => rfl
      | some r' => simp only; rw [if_pos hkb]
     have hr0 := hL.out.inv.stop hlt hnone
     rw [HRes.out] at hr0
     have HR0 := qh hr0
     subst hkb
     clear hnone hr0 k1 k2 k3
     go_wp2
     go_ret3
     exact ⟨0, .slice none 0 0, by rw [HR0.out]; rfl, HXE.out, fun m ws' h9 => by rw [HR0.out] at h9; cases h9⟩
    ·have hke : (kb == ([] : List UInt8)) = false := by rw [beq_eq_false_iff_ne]; exact hkb
     have hke2 : ¬ (kb = []) := hkb
     obtain ⟨bv, hblk, -, -, -⟩ := id HRDw7.out
     have d1 : w7.cell? ⟨w.heap.size, 1, none⟩ = some (.bool o5.isNone) := (blk_cell hblk 1).trans rfl
     clear hblk
     cases o5 with
     | none =>
      have hnone : S6.rdWr r = none := by rw [HSP.out]; rfl
      have hr0 := hL.out.inv.stop hlt hnone
      rw [HRes.out] at hr0
      have HR0 := qh hr0
      clear hnone hr0 k1 k2 k3
      simp only [Option.isNone_none] at d1
      go_wp2
      go_ret3
      exact ⟨0, .slice none 0 0, by rw [HR0.out]; rfl, HXE.out, fun m ws' h9 => by rw [HR0.out] at h9; cases h9⟩
     | some r' =>
      simp only [Option.isNone_some] at d1
      have HWX := qh (show S6.rdWr r = some (⟨kb, [], true, 0⟩, r') by
       rw [HSP.out]; unfold S6.wrRes; simp only; rw [if_neg hkb, HDT.out])
      have hap := hL.out.apart
      have hown0 := ownsRow_mod hL.out.own HM7.out (fun z hz => hap z hz)
      have HO0 := qh hown0
      have hsz : w.heap.size <= (w7.alloc (.cells #[.string ⟨kb.toArray⟩, (.slice none 0 0), .bool true, .int .u64 0] 58)).heap.size := Nat.le_trans HXE.out.size (Ext.of_alloc _ _).size
      have hrow := ReadsN.row 4 w7 [.string ⟨kb.toArray⟩, (.slice none 0 0), .bool true, .int .u64 0] 58 1 rfl (by unfold maxLen; omega) (by simp [Value.oneCell'])
      clear hap hown0
      go_wp2_with (first
       | ((with_reducible show wpList _ _ _ (⟨some 45, _, _, _, _, _⟩ :: _) _ _); refine wpl_build1 el_wr _ rfl _ rfl (.agg #[.string ⟨kb.toArray⟩, (.slice none 0 0), .bool true, .int .u64 0]) rfl (by rfl) ?_)
       | ((with_reducible show wpList _ _ _ (⟨some 46, _, _, _, _, _⟩ :: _) _ _); refine wpl_appg el_wr w.heap.size _ hsz rfl _ _ rfl u7 k _ (by rfl) ((Ext.of_alloc w7 _).keptOwn HO0.out) (.slice (some ⟨w7.heap.size, 0, none⟩) 1 1) 1 _ (by rfl) hrow (by omega) (by omega) ?_; intro v8 w9 hown9 hg9)
       | fail)
      have hxa := Ext.of_alloc w7 (.cells #[.string ⟨kb.toArray⟩, (.slice none 0 0), .bool true, .int .u64 0] 58)
      have HL9 := qh (hL.out.push (x := ⟨kb, [], true, 0⟩) hXw hlt HWX.out (HM7.out.trans (Mod.of_ext hxa) (fun _ _ h => h)) (HRDw7.out.mod (F := fun _ => False) (Mod.of_ext hxa) (fun _ _ h => h) (fun h => h)) (Bs.ext HBSw7.out hxa) HVXw7.out hown9 hg9)
      refine ⟨⟨k + 1, _, _, _, by omega, by go_num, HL9⟩, by simp [intOf]; omega⟩
  ·obtain rfl : k = c := by omega
   have hd := hL.out.inv.done
   rw [HRes.out] at hd
   have HD := qh hd
   have hcz : ¬ (k : Int) < (k : Int) := by omega
   obtain ⟨bv, hblk, hbs, -, -⟩ := hL.out.rd
   have c0 : wr.cell? ⟨w.heap.size, 0, none⟩ = some bv := (blk_cell hblk 0).trans rfl
   have c1 : wr.cell? ⟨w.heap.size, 1, none⟩ = some (.bool o.isNone) := (blk_cell hblk 1).trans rfl
   obtain ⟨ba, bc, rfl⟩ := hbs.shape
   have hwd := Ext.of_drew wr
   have HLX := qh (hL.out.ext.trans hwd)
   have HWR := qh (hL.out.wrs.ext hwd)
   clear hblk hbs hd
   have hres : res.isSome = decide (o = some []) := by
    rw [HD.out]
    by_cases h9 : o = some []
    ·rw [if_pos h9]; simp [h9]
    ·rw [if_neg h9]; simp [h9]
   have hout : ∀ m ws', res = some (m, ws') -> n = m /\ ws' = ws := fun m ws' h9 => by
    rw [HD.out] at h9
    split at h9
    ·injection h9 with h9; injection h9 with h10 h11; exact ⟨h10, h11.symm⟩
    ·cases h9
   have HOUT := qh hout
   have HS := qh hres
   clear hout hres HD
   cases o with
   | none =>
    simp only [Option.isNone_none, Option.getD_none] at c0 c1
    go_upto_region 15 with fail
    go_region
    all_goals go_wp2
    all_goals go_ret3
    all_goals exact ⟨n, u7, by rw [HS.out]; first | rfl | (simp; done), HLX.out, fun m ws' h9 => by obtain ⟨a1, a2⟩ := HOUT.out m ws' h9; exact ⟨a1, a2 ▸ HWR.out.mono (fun z hz => New.mono hwd.size z hz)⟩⟩
   | some r =>
    simp only [Option.isNone_some, Option.getD_some] at c0 c1
    have hre : decide (some r = some []) = decide (r.length = 0) := by
     by_cases h9 : r = []
     ·subst h9; rfl
     ·rw [decide_eq_false (by simpa using h9), decide_eq_false (fun e => h9 (List.eq_nil_of_length_eq_zero e))]
    rw [hre] at HS
    clear hre
    generalize r.length = rl at *
    go_upto_region 15 with fail
    go_region
    all_goals go_wp2
    all_goals go_ret3
    all_goals exact ⟨n, u7, by rw [HS.out]; first | rfl | (rw [beq_int0]; done) | (simp [beq_int0]; done), HLX.out, fun m ws' h9 => by obtain ⟨a1, a2⟩ := HOUT.out m ws' h9; exact ⟨a1, a2 ▸ HWR.out.mono (fun z hz => New.mono hwd.size z hz)⟩⟩
end Go.Proofs.YtnjfioikpajhlaaGreat
