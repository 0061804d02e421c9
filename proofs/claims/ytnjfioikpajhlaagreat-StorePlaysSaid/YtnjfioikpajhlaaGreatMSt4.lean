/- MSt4: StN StO StP StQ. -/
import Derived.Test.YtnjfioikpajhlaaGreatStM
set_option maxRecDepth 100000
set_option maxHeartbeats 64000000
namespace Go.Proofs.YtnjfioikpajhlaaGreat
open Go.RowKit Go.Shelf
namespace S6
def openS (d : D.Dsk) : W5.Lg × Option St × Int :=
 if (W5.open_ d).2 ≠ 0 then ((W5.open_ d).1, none, (W5.open_ d).2) else
 match play (W5.open_ d).1.recs with
 | none => ((W5.open_ d).1, none, 4)
 | some (l, m) => ((W5.open_ d).1, some ⟨(W5.open_ d).1, l, m, false⟩, 0)
theorem play_step {recs : List (List UInt8)} {k : Nat} {l : List Pr} {m n : Nat} {ws : List Wr} (hk : k < recs.length) (h : playF (recs.take k) [] 0 = some (l, m)) (hb : readB recs[k] = some (n, ws)) : playF (recs.take (k + 1)) [] 0 = some (apl l n ws, max m n) := by
 rw [List.take_succ_eq_append_getElem hk, playF_append, h]
 simp only [playF, hb]
theorem play_bad {recs : List (List UInt8)} {k : Nat} {l : List Pr} {m : Nat} (hk : k < recs.length) (h : playF (recs.take k) [] 0 = some (l, m)) (hb : readB recs[k] = none) : play recs = none := by
 unfold play
 rw [<- List.take_append_drop k recs, playF_append, h, List.drop_eq_getElem_cons hk]
 simp only [playF_cons, hb]
end S6
def Opened6 (w0 w w' : World) (X : Nat -> Prop) (p : Nat) (r : W5.Lg × Option S6.St × Int) (e : Ending) : Prop :=
 (∃ S q, r.2.1 = some S /\ e = .returned (.tuple #[.pointer (some ⟨q, 0, none⟩), .int .i64 0]) /\ w.heap.size <= q /\ Stod w0 w' X p q S /\ Keeps X w w') ∨
 (r.2.1 = none /\ e = .returned (.tuple #[.pointer none, .int .i64 r.2.2]) /\ Step w0 w w' X p r.1.d)
structure OL (W1 wr : World) (q ql ar : Nat) (recs : List (List UInt8)) (k : Nat) (x : S6.Idx) (xv : Value) (n nd m : Nat) : Prop where
 mod : Mod (fun z => z = q) W1 wr
 blk : wr.heap[q]? = some (.cells [xv, .int .i64 (n : Int), .int .u64 (m : Int), .int .i64 (nd : Int), .int .i64 (ar : Int), .pointer (some ⟨ql, 0, none⟩), .bool false].toArray 89 (0, 0))
 idx : IdxIn wr (New (fun _ => False) W1 wr) xv x
 ok : S6.IOk x
 nn : n = x.flatten.length
 dd : nd = S6.needsL x.flatten
 pl : S6.playF (recs.take k) [] 0 = some (x.flatten, m)
 pk : ∀ p ∈ x.flatten, S6.POk m p
 nm : m <= S6.lastN
 ln : x.flatten.length <= 64 * k
section
variable {w0 w : World} {X : Nat -> Prop} {p : Nat}
theorem open6_any {d : D.Dsk} (h : Held w0 w X p d) (hwl : d.wait.length <= 1073600000) :
 Calls Tryz.prog 6 #[.pointer (some ⟨p, 0, none⟩)] w fun e w' => Opened6 w0 w w' X p (S6.openS d) e := by
 have HOP := qh (open_any h hwl)
 have HH := qh h
 clear h hwl
 generalize hR : S6.openS d = R at *
 have HR := qh hR
 clear hR
 go_enter Tryz.func6, Tryz.ntmps6
 go_wp2_with fail
 unfold Opened at HOP
 refine HOP.out.mono ?_
 clear HOP
 rintro e w2 (⟨h0, ql, rfl, hql, hL, hK⟩ | ⟨h9, rfl, hst⟩)
 ·have hRR := HR.out
  unfold S6.openS at hRR
  rw [if_neg (by simp [h0])] at hRR
  have HRR := qh hRR
  have HL := qh hL
  have HK := qh hK
  have hsz := held_size hL.held
  have hn2 : (W5.open_ d).1.d.n <= 4096 := hL.ok.n2
  have hn1 : 1 <= (W5.open_ d).1.d.n := hL.ok.n1
  have har0 : (W5.area (W5.open_ d).1.d : Int) = W5.areaI (W5.open_ d).1.d.n := by
   unfold W5.area
   have : 0 <= W5.areaI (W5.open_ d).1.d.n := by unfold W5.areaI; split <;> omega
   omega
  have har2 : W5.area (W5.open_ d).1.d <= 2047 := W5.area_le _ hn2
  have hrl : (W5.open_ d).1.recs.length <= 2047 := Nat.le_trans (Nat.le_trans (W5.len_le_used _) hL.fit) har2
  have HLEN := qh hL.len
  have HSZ := qh hsz
  clear h0 hRR hL hK hsz
  obtain ⟨L, hLd⟩ : ∃ L, L = (W5.open_ d).1 := ⟨_, rfl⟩
  rw [<- hLd] at HL HRR HSZ hn2 hn1 har0 har2 hrl HLEN
  clear hLd
  obtain ⟨ar, hare⟩ : ∃ ar, ar = W5.area L.d := ⟨_, rfl⟩
  rw [<- hare] at har0 har2
  have HAR := qh hare
  have HAI := qh har0
  clear hare har0
  generalize hnn : L.d.n = dn at *
  have HNN := qh hnn
  clear hnn
  go_wp2_with fail
  refine HSZ.out.mono ?_
  rintro e w3 ⟨rfl, rfl⟩
  go_wp2_with fail
  refine (area_any dn w2 (by omega) (by omega)).mono ?_
  rintro e w3 ⟨rfl, rfl⟩
  rw [<- HAI.out]
  go_upto_region 6 with fail
  have hxa := Ext.of_alloc w2 (.cells #[.slice none 0 0, .int .i64 0, .int .u64 0, .int .i64 1, .int .i64 (ar : Int), .pointer (some ⟨ql, 0, none⟩), .bool false] 89)
  have hba := heap_alloc_new w2 (.cells #[.slice none 0 0, .int .i64 0, .int .u64 0, .int .i64 1, .int .i64 (ar : Int), .pointer (some ⟨ql, 0, none⟩), .bool false] 89)
  obtain ⟨W1, hW1⟩ : ∃ W1, W1 = w2.alloc (.cells #[.slice none 0 0, .int .i64 0, .int .u64 0, .int .i64 1, .int .i64 (ar : Int), .pointer (some ⟨ql, 0, none⟩), .bool false] 89) := ⟨_, rfl⟩
  have hs1 : W1.heap.size = w2.heap.size + 1 := by rw [hW1]; simp
  rw [<- hW1] at hxa hba ⊢
  obtain ⟨q, hq⟩ : ∃ q, q = w2.heap.size := ⟨_, rfl⟩
  rw [<- hq] at hba hs1 ⊢
  have HQ := qh hq
  clear hW1 hq
  have hrec := records_any (HL.out.after hxa)
  have HREC := qh hrec
  clear hrec
  go_wp2_with fail
  refine HREC.out.mono ?_
  clear HREC
  rintro e w4 ⟨rv, rvs, rfl, hrows, hx4⟩
  obtain ⟨-, rva, rvc, rfl, -⟩ := (hrows.rows (X := fun _ => True) (fun _ _ _ => trivial)).shape
  have hb4 := (Below.block (B := W1.heap.size) hx4 q (by omega)).trans hba
  have HROWS := qh hrows
  have HX24 := qh (hxa.trans hx4)
  have hq4 : q < W1.heap.size := by omega
  have hs4 := hx4.size
  have hOL : OL w4 w4 q ql ar L.recs 0 [] (.slice none 0 0) 0 1 0 := ⟨Mod.refl _ _, hb4, IdxIn.nil _ _, ⟨(fun p hp => by cases hp), List.Pairwise.nil⟩, rfl, rfl, rfl, (fun p hp => by cases hp), Nat.zero_le _, Nat.zero_le _⟩
  have HOL := qh hOL
  clear hrows hx4 hxa hba hb4 hOL
  obtain ⟨rl, hrl2⟩ : ∃ rl, rl = L.recs.length := ⟨_, rfl⟩
  rw [<- hrl2] at hrl ⊢
  have HRL : Hid (L.recs.length = rl) := hrl2.symm
  clear hrl2
  have hrli : (rl : Int) <= 2047 := by omega
  go_wp2_with fail
  go_loopw [33] (fun iv wr => ∃ (k : Nat) (x : S6.Idx) (xv : Value) (n nd m : Nat), k <= rl /\ iv = .int .i64 (k : Int) /\ Hid (OL w4 wr q ql ar L.recs k x xv n nd m)) (fun iv _ => rl - (intOf iv).toNat)
  case atStart => exact ⟨0, [], _, 0, 1, 0, Nat.zero_le _, rfl, HOL⟩
  case round =>
   obtain ⟨k, x, xv, n, nd, m, hk, rfl, hO⟩ := hrel
   clear HOL
   have hxr : Ext w2 wr := Mod.ext HX24.out hO.out.mod (fun z hz => by have := HQ.out; omega)
   have HXR := qh hxr
   have hrowsr := HROWS.out.mod hO.out.mod (fun z hz e => by have := (HROWS.out.row.lt z hz).1; omega) (fun u hu z hz e => by obtain ⟨l, hl⟩ := HROWS.out.mem hu; have := (hl.lt z hz).1; omega)
   by_cases hlt : k < rl
   ·have hlti : (k : Int) < (rl : Int) := by omega
    have hkr : k < L.recs.length := by rw [HRL.out]; exact hlt
    obtain ⟨u, hu1, hu2⟩ := hrowsr.each k hkr
    obtain ⟨-, ra2, rc2, hrv2, hcell⟩ := (hrowsr.rows (X := fun z => z < wr.heap.size) (fun z _ hz => hz)).shape
    rw [HRL.out] at hrv2
    obtain ⟨rfl, _, rfl⟩ := Value.slice.inj hrv2
    obtain ⟨b, off, rfl, -, u9, hcu, hbu, huX⟩ := hcell k hkr
    have hbl := HLEN.out _ (List.getElem_mem hkr)
    have HRD := qh (sread_any wr (fun z => z < wr.heap.size) u9 L.recs[k] hbu huX (fun z hz => hz) (by omega))
    unfold ReadE at HRD
    obtain ⟨ua, uc, rfl⟩ := hbu.shape
    have HPS := qh (fun n ws => S6.play_step (n := n) (ws := ws) hkr hO.out.pl)
    have HPB := qh (S6.play_bad hkr hO.out.pl)
    have HRB := qh (fun n ws => S6.readB_ok (b := L.recs[k]) (n := n) (ws := ws))
    clear hu1 hu2 hrv2 hcell hbu huX hrowsr hxr
    generalize L.recs[k] = rec at *
    go_wp2_with fail
    refine HRD.out.mono ?_
    clear HRD
    rintro e w5 ⟨nr, v5, rfl, hx5, hres⟩
    cases hrd : S6.readB rec with
    | none =>
     have hpb := HPB.out hrd
     have hRR := HRR.out
     rw [hpb] at hRR
     simp only at hRR
     subst hRR
     have HX5 := qh (HXR.out.trans hx5)
     simp only [Option.isSome_none]
     clear hres hx5 hpb
     go_wp2
     go_ret2
     exact .inr ⟨rfl, rfl, (HL.out.after HX5.out).held, HK.out.trans (Keeps.of_ext HX5.out)⟩
    | some r =>
     obtain ⟨mr, ws⟩ := r
     obtain ⟨rfl, hws⟩ := hres mr ws hrd
     have hrb := HRB.out _ _ hrd
     have hps := HPS.out _ _ hrd
     have hblk := (Below.block (B := wr.heap.size) hx5 q (blk_lt hO.out.blk)).trans hO.out.blk
     obtain ⟨_, xva, xvc, rfl, _⟩ := hO.out.idx.shape
     have c0 : w5.cell? ⟨q, 0, none⟩ = some (.slice xva x.length xvc) := (blk_cell hblk 0).trans rfl
     have c1 : w5.cell? ⟨q, 1, none⟩ = some (.int .i64 (n : Int)) := (blk_cell hblk 1).trans rfl
     have c2 : w5.cell? ⟨q, 2, none⟩ = some (.int .u64 (m : Int)) := (blk_cell hblk 2).trans rfl
     have c3 : w5.cell? ⟨q, 3, none⟩ = some (.int .i64 (nd : Int)) := (blk_cell hblk 3).trans rfl
     obtain ⟨_, v5a, v5c, rfl, _⟩ := hws.shape
     have hs5 := hx5.size
     have hs45 := hO.out.mod.size
     have hXb : ∀ z, New (fun z => z < wr.heap.size) wr w5 z -> z < w5.heap.size := by
      rintro z (hz | hz)
      ·exact Nat.lt_of_lt_of_le hz hs5
      ·exact hz.2
     have hZb : ∀ z, New (fun _ => False) w4 w5 z -> z < w5.heap.size := by
      rintro z (hz | hz)
      ·exact absurd hz id
      ·exact hz.2
     have hap := apply_any w5 (New (fun z => z < wr.heap.size) wr w5) (New (fun _ => False) w4 w5) hXb hZb (.slice xva x.length xvc) (.slice v5a ws.length v5c) x m nr ws ((hO.out.idx.ext hx5).mono (fun z hz => New.mono hx5.size z hz)) hO.out.ok (fun p hp => (hO.out.pk p hp).le hO.out.nm) hO.out.nm hrb.1 hws hrb.2.2 (by have := hO.out.ln; have := hrb.2.1; omega) n nd hO.out.nn hO.out.dd
     have HAP := qh hap
     have HBLK := qh hblk
     have HX5 := qh hx5
     have HRBB := qh hrb
     have HPSS := qh hps
     have hq5 : q < w5.heap.size := blk_lt hblk
     simp only [Option.isSome_some]
     clear hres hws hap hblk hrb hps hx5 hrd
     go_wp2_with fail
     refine HAP.out.mono ?_
     clear HAP
     rintro e w6 ⟨xv6, x6, n6, nd6, rfl, hn6, hd6, hI6, hok6, hfl6, hx6⟩
     obtain ⟨_, xa6, xc6, rfl, _⟩ := hI6.shape
     have hb6 := (Below.block (B := w5.heap.size) hx6 q hq5).trans HBLK.out
     have hth := there_blk hb6 0 4 (by simp)
     have hms := mod_setCells (fun z => z = q) w6 q 0 [.slice xa6 x6.length xc6, .int .i64 (n6 : Int), .int .u64 ((max m nr : Nat) : Int), .int .i64 (nd6 : Int)] rfl
     have hbs := blk_setCells q 89 [.slice xa6 x6.length xc6, .int .i64 (n6 : Int), .int .u64 ((max m nr : Nat) : Int), .int .i64 (nd6 : Int)] 0 w6 _ hb6 (by simp)
     have HTH := qh hth
     have HMS := qh hms
     have HBS := qh hbs
     have HN6 := qh hn6
     have HD6 := qh hd6
     have HF6 := qh hfl6
     have HX6 := qh hx6
     clear hn6 hd6 hfl6 hx6 hth hms hbs hb6 c0 c1 c2 c3
     generalize hmm : max m nr = mm at *
     have HMM := qh hmm
     clear hmm
     go_wp2_with (first
      | ((with_reducible show wpList _ _ _ (⟨none, Op.store _ _ _, _, _, _, _⟩ :: _) _ _); refine wpList_store_mid rfl 87 _ _ rfl q 0 #[.slice xa6 x6.length xc6, .int .i64 (n6 : Int), .int .u64 (mm : Int), .int .i64 (nd6 : Int)] (by rfl) (by rfl) HTH.out (by kernel_rfl) (by simp [Value.oneCell']) ?_)
      | fail)
     refine ⟨⟨k + 1, x6, .slice xa6 x6.length xc6, n6, nd6, mm, by omega, by go_num, ?_⟩, by simp [intOf]; omega⟩
     refine ⟨Mod.trans (F := fun z => z = q) (G := fun z => z = q) hO.out.mod (Mod.trans (F := fun z => z = q) (G := fun z => z = q) (Mod.of_ext (HX5.out.trans HX6.out)) HMS.out (fun _ _ h => h)) (fun _ _ h => h), by rw [HBS.out]; simp, ?_, hok6, HN6.out, HD6.out, by rw [HF6.out]; have := HPSS.out; first | exact this | (rw [HMM.out] at this; exact this), ?_, by have := hO.out.nm; have := HRBB.out.1; have := HMM.out; omega, ?_⟩
     ·refine ((hI6.mono (new3 (W := w4) (w := w5) (v := w6) (by omega) HX6.out.size)).keeps (HMS.out.mono (fun z hz hY => ?_))).mono (fun z hz => New.mono HMS.out.size z hz)
      rcases hY with hY | hY
      ·exact hY
      ·omega
     ·rw [HF6.out]
      exact S6.apl_pok (m := mm) (fun p hp => (hO.out.pk p hp).le (by have := HMM.out; omega)) HRBB.out.2.2 (by have := HMM.out; omega)
     ·rw [HF6.out]
      have := S6.apl_len nr ws x.flatten
      have := hO.out.ln
      have := HRBB.out.2.1
      omega
   ·obtain rfl : k = rl := by omega
    have hpl := hO.out.pl
    rw [<- HRL.out, List.take_length] at hpl
    have hRR := HRR.out
    have hpl2 : S6.play L.recs = some (x.flatten, m) := hpl
    rw [hpl2] at hRR
    simp only at hRR
    subst hRR
    clear hpl hpl2
    go_wp2
    go_ret2
    refine .inl ⟨_, q, rfl, rfl, by have := HQ.out; have := HK.out.size; omega, ?_, HK.out.trans (Keeps.of_ext HXR.out)⟩
    have hLr := HL.out.all HXR.out
    have hXlt := HL.out.held.lt
    refine ⟨_, New (fun _ => False) w4 wr, ql, xv, x, n, nd, hLr, fun k hk => .inl hk, .inr ⟨by have := HQ.out; omega, blk_lt hO.out.blk⟩, fun hk => by have := hXlt q hk; have := HQ.out; omega, by have := HL.out.held.ext.size; have := HQ.out; omega, HL.out.old, ?_, hO.out.idx, ?_, hO.out.ok, rfl, hO.out.nn, hO.out.dd, hO.out.pk, hO.out.nm, ?_⟩
    ·have hA : S6.areaS (⟨L, x.flatten, m, false⟩ : S6.St) = ar := HAR.out.symm
     rw [hA]; exact hO.out.blk
    ·intro z hz
     rcases hz with hz | hz
     ·exact absurd hz id
     ·have := HQ.out
      exact ⟨.inr ⟨by omega, hz.2⟩, fun hx => by have := hXlt z hx; omega, by omega⟩
    ·have := hO.out.ln
     show x.flatten.length <= 200000
     omega
 ·have hRR := HR.out
  unfold S6.openS at hRR
  rw [if_pos h9] at hRR
  subst hRR
  have hecb : (((W5.open_ d).2 : Int) != 0) = true := by rw [bne_iff_ne]; exact h9
  have HST := qh hst
  clear hst
  go_wp2
  go_ret2
  exact .inr ⟨rfl, rfl, HST.out⟩
end
end Go.Proofs.YtnjfioikpajhlaaGreat
namespace Go.Proofs.YtnjfioikpajhlaaGreat
open Go.RowKit Go.Shelf
def svals (ps : List S6.Pr) : List Value := ps.map (fun p => strV p.val)
theorem svals_len (ps : List S6.Pr) : (svals ps).length = ps.length := by simp [svals]
theorem svals_get (ps : List S6.Pr) (i : Nat) (h : i < ps.length) (k : i < (svals ps).length) : (svals ps)[i] = strV ps[i].val := by simp [svals]
theorem svals_one (ps : List S6.Pr) : ∀ u ∈ svals ps, u.oneCell' = true := by
 intro u hu
 obtain ⟨p, _, rfl⟩ := List.mem_map.1 hu
 rfl
theorem svals_append (a b : List S6.Pr) : svals (a ++ b) = svals a ++ svals b := by simp [svals]
def RPs (w : World) (v : Value) (ps : List S6.Pr) : Prop := ReadsN 3 w v ps.length (prcs ps (svals ps))
theorem RPs.ext {w w' : World} {v : Value} {ps : List S6.Pr} (h : RPs w v ps) (he : Ext w w') : RPs w' v ps := ReadsN.ext h he
theorem RPs.nil (w : World) : RPs w (.slice none 0 0) [] := ⟨none, 0, rfl, rfl, Nat.le_refl _, by unfold maxLen; omega, fun _ => rfl, (fun u hu => by cases hu), .inl rfl⟩
theorem RPs.mod {F : Nat -> Prop} {w w' : World} {v : Value} {ps : List S6.Pr} (h : RPs w v ps) (hm : Mod F w w') (hv : ∀ k, v.ownBlock = some k -> ¬ F k) : RPs w' v ps :=
 ReadsN.keeps (X := fun k => ¬ F k) h (hm.mono (fun _k hk h2 => h2 hk)) hv
theorem RPs.of_own {w : World} {base n : Nat} {e : TypeId} {v : Value} {ps : List S6.Pr} (h : w.ownsRow base e 3 v n (prcs ps (svals ps))) : RPs w v ps := by
 have hl := h.1
 rw [prcs_len _ _ (svals_len ps)] at hl
 obtain rfl : n = ps.length := by omega
 exact ReadsN.of_own h (prcs_one _ _ (svals_one ps))
theorem RPs.shape {w : World} {v : Value} {ps : List S6.Pr} (h : RPs w v ps) : ps.length <= 9223372036854775807 /\ ∃ a cap, v = .slice a ps.length cap /\ ps.length <= cap /\ ∀ i (h : i < ps.length), ∃ b off, a = some ⟨b, off, none⟩ /\
 w.cell? ⟨b, off + i * 3, none⟩ = some (strV ps[i].key) /\ w.cell? ⟨b, off + i * 3 + 1, none⟩ = some (strV ps[i].val) /\ w.cell? ⟨b, off + i * 3 + 2, none⟩ = some (.int .u64 (ps[i].ver : Int)) := by
 obtain ⟨a, cap, hv, h0, h1, h2, hn, h3, h4⟩ := h
 unfold maxLen at h2
 refine ⟨by omega, a, cap, hv, h1, fun i hi => ?_⟩
 rcases h4 with h4 | ⟨b, off, rfl, hc⟩
 ·omega
 ·obtain ⟨g1, g2, g3⟩ := prcs_get ps (svals ps) i hi (svals_len ps)
  rw [svals_get ps i hi] at g2
  exact ⟨b, off, rfl, hc _ _ g1, by rw [Nat.add_assoc]; exact hc _ _ g2, by rw [Nat.add_assoc]; exact hc _ _ g3⟩
structure G9 where
 g0 : Value
 g1 : Value
 g2 : Value
 g3 : Value
 g4 : Value
 g5 : Value
 g6 : Value
 g7 : Value
 g8 : Value
def s6cs (g : G9) (pv : Value) (num : Nat) (cl : Bool) : List Value := [g.g0, g.g1, g.g2, g.g3, g.g4, g.g5, g.g6, g.g7, g.g8, pv, .int .u64 (num : Int), .bool cl]
def s6v (g : G9) (pv : Value) (num : Nat) (cl : Bool) : Value := .agg #[g.g0, g.g1, g.g2, g.g3, g.g4, g.g5, g.g6, g.g7, g.g8, pv, .int .u64 (num : Int), .bool cl]
def gotV (r : Option S6.Pr) : Value := .tuple #[strV ((r.map (fun p => p.val)).getD []), .int .u64 (((r.map (fun p => p.ver)).getD 0 : Nat) : Int), .bool r.isSome]
namespace S6
theorem look_take {l : List Pr} {key : Key} {k : Nat} (hk : k < l.length) (h : ∀ p ∈ l.take k, p.key ≠ key) (he : l[k].key = key) : look l key = some l[k] := by
 unfold look
 have e0 : l = l.take k ++ (l[k] :: l.drop (k + 1)) := by rw [<- List.drop_eq_getElem_cons hk, List.take_append_drop]
 generalize l[k] = p at *
 have e1 : (l.take k).find? (fun a => decide (a.key = key)) = none := by
  rw [List.find?_eq_none]; intro a ha e; exact h a ha (by simpa using e)
 rw [e0, List.find?_append, e1, Option.none_or, List.find?_cons_of_pos (by simpa using he)]
theorem look_all {l : List Pr} {key : Key} (h : ∀ p ∈ l, p.key ≠ key) : look l key = none := by
 unfold look
 rw [List.find?_eq_none]; intro a ha e; exact h a ha (by simpa using e)
theorem take_ne {l : List Pr} {key : Key} {k : Nat} (hk : k < l.length) (h : ∀ p ∈ l.take k, p.key ≠ key) (he : l[k].key ≠ key) : ∀ p ∈ l.take (k + 1), p.key ≠ key := by
 intro p hp
 rw [List.take_succ_eq_append_getElem hk] at hp
 rcases List.mem_append.1 hp with hp | hp
 ·exact h p hp
 ·rw [List.mem_singleton] at hp; subst hp; exact he
end S6
theorem refGet6 (w : World) (g : G9) (pv : Value) (num : Nat) (cl : Bool) (l : List S6.Pr) (key : List UInt8) (h : RPs w pv l) (hl : l.length <= 900000) :
 Calls Tryz.prog 33 #[s6v g pv num cl, strV key] w fun e w' => e = .returned (gotV (S6.look l key)) /\ Ext w w' := by
 obtain ⟨_, a, cap, rfl, hcap, hcell⟩ := h.shape
 have HC := qh hcell
 have hli : (l.length : Int) <= 900000 := by omega
 clear h hcell
 generalize hlk : S6.look l key = lk
 have HL := qh hlk
 clear hlk
 obtain ⟨g0, g1, g2, g3, g4, g5, g6, g7, g8⟩ := g
 unfold s6v strV
 have c9 : (w.alloc (.cells #[g0, g1, g2, g3, g4, g5, g6, g7, g8, .slice a l.length cap, .int .u64 (num : Int), .bool cl] 41)).cell? ⟨w.heap.size, 9, none⟩ = some (.slice a l.length cap) := by rw [World.cell?_alloc_at _ _ _ _ rfl]; rfl
 have hx1 := Ext.of_alloc w (.cells #[g0, g1, g2, g3, g4, g5, g6, g7, g8, .slice a l.length cap, .int .u64 (num : Int), .bool cl] 41)
 go_enter Tryz.func33, Tryz.ntmps33
 go_wp2_with fail
 obtain ⟨W1, hW1⟩ : ∃ W1, W1 = w.alloc (.cells #[g0, g1, g2, g3, g4, g5, g6, g7, g8, .slice a l.length cap, .int .u64 (num : Int), .bool cl] 41) := ⟨_, rfl⟩
 rw [<- hW1] at c9 hx1 ⊢
 have HX1 := qh hx1
 clear hW1 hx1
 go_loopw [7] (fun iv wr => ∃ k : Nat, k <= l.length /\ iv = .int .i64 (k : Int) /\ Hid (∀ p ∈ l.take k, p.key ≠ key) /\ Hid (Ext W1 wr)) (fun iv _ => l.length - (intOf iv).toNat)
 case atStart => exact ⟨0, Nat.zero_le _, rfl, (show ∀ p ∈ l.take 0, p.key ≠ key from fun p hp => by simp at hp), Ext.refl _⟩
 case round =>
  obtain ⟨k, hk, rfl, hN, hX⟩ := hrel
  have c9' := hX.out.cell c9
  by_cases hlt : k < l.length
  ·have hlti : (k : Int) < (l.length : Int) := by omega
   obtain ⟨b, off, rfl, d0, d1, d2⟩ := HC.out k hlt
   replace d0 := (HX1.out.trans hX.out).cell d0
   replace d1 := (HX1.out.trans hX.out).cell d1
   replace d2 := (HX1.out.trans hX.out).cell d2
   have HTK := qh (fun he => S6.look_take hlt hN.out he)
   have HNE := qh (fun he => S6.take_ne hlt hN.out he)
   unfold strV at d0 d1
   clear c9
   generalize l[k] = p at *
   by_cases he : p.key = key
   ·have hlk := HTK.out he
    rw [HL.out] at hlk
    subst hlk
    have heb : (p.key == key) = true := by rw [beq_iff_eq]; exact he
    have HE := qh he
    clear he
    go_wp2_with fail
    go_region
    all_goals go_wp2
    all_goals go_ret3
    all_goals exact ⟨rfl, HX1.out.trans (hX.out.trans (Ext.of_drew _))⟩
   ·have heb : (p.key == key) = false := by rw [beq_eq_false_iff_ne]; exact he
    have hne := HNE.out he
    have HN2 := qh hne
    clear he hne
    go_wp2
    exact ⟨⟨k + 1, by omega, by go_num, HN2, hX⟩, by simp [intOf]; omega⟩
  ·obtain rfl : k = l.length := by omega
   have hnn := hN.out
   rw [List.take_length] at hnn
   have hlk := S6.look_all hnn
   rw [HL.out] at hlk
   subst hlk
   clear hnn
   go_wp2
   go_ret3
   exact ⟨rfl, HX1.out.trans hX.out⟩
theorem Pr_eq_iff (a b : S6.Pr) : a = b ↔ a.key = b.key /\ a.val = b.val /\ a.ver = b.ver := by
 constructor
 ·rintro rfl; exact ⟨rfl, rfl, rfl⟩
 ·obtain ⟨k, v, n⟩ := a
  obtain ⟨k2, v2, n2⟩ := b
  rintro ⟨h1, h2, h3⟩
  simp only at h1 h2 h3
  subst h1 h2 h3
  rfl
theorem same6_any (w : World) (va vb : Value) (la lb : List S6.Pr) (ha : RPs w va la) (hb : RPs w vb lb) :
 Calls Tryz.prog 17 #[va, vb] w fun e w' => ∃ r : Bool, e = .returned (.bool r) /\ (r = true ↔ la = lb) /\ Ext w w' := by
 obtain ⟨hla, aa, ca, rfl, _, hA⟩ := ha.shape
 obtain ⟨hlb, ab, cb, rfl, _, hB⟩ := hb.shape
 have HA := qh hA
 have HB := qh hB
 clear ha hb hA hB
 by_cases hl : la.length = lb.length
 ·have hli : (la.length : Int) = (lb.length : Int) := by omega
  rw [hl]
  have HL := qh hl
  clear hl hli
  go_enter Tryz.func17, Tryz.ntmps17
  go_wp2
  go_loopw [5] (fun iv wr => ∃ k : Nat, k <= lb.length /\ iv = .int .i64 (k : Int) /\ Hid (la.take k = lb.take k) /\ Hid (Ext w wr)) (fun iv _ => lb.length - (intOf iv).toNat)
  case atStart => exact ⟨0, by omega, rfl, rfl, Ext.refl w⟩
  case round =>
   obtain ⟨k, hk, rfl, htk, hx⟩ := hrel
   by_cases hlt : k < lb.length
   ·have hlti : (k : Int) < (lb.length : Int) := by omega
    have hk1 : k < la.length := by rw [HL.out]; exact hlt
    obtain ⟨b1, o1, rfl, c10, c11, c12⟩ := HA.out k hk1
    obtain ⟨b2, o2, rfl, c20, c21, c22⟩ := HB.out k hlt
    unfold strV at c10 c11 c20 c21
    replace c10 := hx.out.cell c10
    replace c11 := hx.out.cell c11
    replace c12 := hx.out.cell c12
    replace c20 := hx.out.cell c20
    replace c21 := hx.out.cell c21
    replace c22 := hx.out.cell c22
    have HX2 := qh (hx.out.trans (Ext.of_drew wr))
    have hst : Hid (la[k] = lb[k] -> la.take (k + 1) = lb.take (k + 1)) := fun e => by
     rw [List.take_succ_eq_append_getElem hk1, List.take_succ_eq_append_getElem hlt, htk.out, e]
    have hno : Hid (la[k] ≠ lb[k] -> la ≠ lb) := fun e h2 => by subst h2; exact e rfl
    clear hx htk
    generalize la[k] = S at *
    generalize lb[k] = T at *
    by_cases hST : S = T
    ·have hst2 := qh (hst.out hST)
     obtain ⟨sk, sv, sn⟩ := S
     subst hST
     simp only at c10 c11 c12 c20 c21 c22
     clear hst hno
     go_wp2_with fail
     go_region
     go_wp2
     exact ⟨⟨k + 1, by omega, by go_num, hst2, HX2⟩, by simp [intOf]; omega⟩
    ·have hrf := qh (hno.out hST)
     obtain ⟨sk, sv, sn⟩ := S
     obtain ⟨tk, tv, tn⟩ := T
     rw [Pr_eq_iff] at hST
     simp only at c10 c11 c12 c20 c21 c22 hST
     clear hst hno
     go_wp2_with fail
     by_cases e1 : sk = tk
     ·subst e1
      by_cases e2 : sv = tv
      ·subst e2
       have e3 : ¬ sn = tn := fun e => hST ⟨rfl, rfl, e⟩
       have e3b : ((sn : Int) == (tn : Int)) = false := by rw [beq_eq_false_iff_ne]; omega
       have e3c : ¬ ((sn : Int) = (tn : Int)) := by omega
       clear hST e3
       go_region
       go_wp2
       go_ret
       exact ⟨_, rfl, ⟨fun h => (by cases h), fun h => absurd h hrf.out⟩, HX2.out⟩
      ·have e2b : (sv == tv) = false := by rw [beq_eq_false_iff_ne]; exact e2
       clear hST
       go_region
       go_wp2
       go_ret
       exact ⟨_, rfl, ⟨fun h => (by cases h), fun h => absurd h hrf.out⟩, HX2.out⟩
     ·have e1b : (sk == tk) = false := by rw [beq_eq_false_iff_ne]; exact e1
      clear hST
      go_region
      go_wp2
      go_ret
      exact ⟨_, rfl, ⟨fun h => (by cases h), fun h => absurd h hrf.out⟩, HX2.out⟩
   ·have hrt : la = lb := by
     have h1 := htk.out
     rw [List.take_of_length_le (by rw [HL.out]; omega), List.take_of_length_le (by omega)] at h1
     exact h1
    have HRT := qh hrt
    have HX2 := qh hx.out
    clear htk hx hrt
    go_wp2
    go_ret
    exact ⟨true, rfl, ⟨fun _ => HRT.out, fun _ => rfl⟩, HX2.out⟩
 ·have hli : ((la.length : Int) == (lb.length : Int)) = false := by rw [beq_eq_false_iff_ne]; omega
  have hli2 : ((la.length : Int) != (lb.length : Int)) = true := by rw [bne_iff_ne]; omega
  have HL := qh hl
  clear hl
  go_enter Tryz.func17, Tryz.ntmps17
  go_wp2
  go_ret
  exact ⟨false, rfl, ⟨fun h => (by cases h), fun h => absurd (by rw [h]) HL.out⟩, Ext.refl w⟩
end Go.Proofs.YtnjfioikpajhlaaGreat
namespace Go.Proofs.YtnjfioikpajhlaaGreat
open Go.RowKit Go.Shelf
theorem el_rpair : Elem 38 127 3 40 := elem_of Tryz.underlying38 (by decide) (by decide) (by kernel_rfl)
def VF (us : List Value) (i : Nat) : Nat -> Prop := fun k => ∃ j u, j < i /\ us[j]? = some u /\ u.ownBlock = some k
theorem VF.mono {us : List Value} {i j : Nat} (h : i <= j) : ∀ k, VF us i k -> VF us j k := fun _ ⟨a, u, h1, h2, h3⟩ => ⟨a, u, by omega, h2, h3⟩
theorem PairsO.vf_row {w : World} {base : Nat} {v : Value} {us : List Value} {ps : List S6.Pr} (h : PairsO w base v us ps) (i : Nat) : ∀ k, v.ownBlock = some k -> ¬ VF us i k := fun _k hk ⟨_, _u, _, h2, h3⟩ => h.apart (List.mem_of_getElem? h2) h3 hk
theorem PairsO.vf_val {w : World} {base : Nat} {v : Value} {us : List Value} {ps : List S6.Pr} (h : PairsO w base v us ps) {i : Nat} {u : Value} (hu : us[i]? = some u) : ∀ k, u.ownBlock = some k -> ¬ VF us i k := fun k hk ⟨j, a, h1, h2, h3⟩ => h.two j i a u h1 h2 hu k h3 hk
theorem PairsO.vf_lt {w : World} {base : Nat} {v : Value} {us : List Value} {ps : List S6.Pr} (h : PairsO w base v us ps) (i : Nat) : ∀ k, VF us i k -> base <= k /\ k < w.heap.size := fun k ⟨j, a, _, h2, h3⟩ => by
 obtain ⟨l, ho⟩ := h.mem (List.mem_of_getElem? h2)
 exact ho.lt k h3
theorem pairs6_any (w : World) (base : Nat) (v : Value) (us : List Value) (ps : List S6.Pr) (h : PairsO w base v us ps) (hl : ps.length <= 900000) (hvl : ∀ p ∈ ps, p.val.length <= 1000000) :
 Calls Tryz.prog 18 #[v] w fun e w' => ∃ v', e = .returned v' /\ w'.ownsRow w.heap.size 127 3 v' ps.length (prcs ps (svals ps)) /\ Mod (VF us ps.length) w w' := by
 have H := qh h
 have HVL := qh hvl
 have hone : ∀ u ∈ us, u.oneCell' = true := fun u hu => by
  obtain ⟨l, ho⟩ := h.mem hu
  obtain ⟨a, cap, rfl⟩ := (Bs.of_own ho).shape
  rfl
 have hrd0 := ReadsN.of_own h.row (prcs_one ps us hone)
 obtain ⟨va, vc, rfl, -⟩ := id hrd0
 have hli : (ps.length : Int) <= 900000 := by omega
 have HONE := qh hone
 clear h hvl hrd0 hone
 go_enter Tryz.func18, Tryz.ntmps18
 go_wp2_with fail
 go_loopw [3, 4] (fun ov iv wr => ∃ i : Nat, i <= ps.length /\ iv = .int .i64 (i : Int) /\ Hid (wr.ownsRow w.heap.size 127 3 ov i (prcs (ps.take i) (svals (ps.take i)))) /\ Hid (Mod (VF us i) w wr)) (fun _ iv _ => ps.length - (intOf iv).toNat)
 case atStart => exact ⟨0, Nat.zero_le _, rfl, World.ownsRow_nil _ _ _ _, Mod.refl _ _⟩
 case round =>
  obtain ⟨i, hi, rfl, hO, hM⟩ := hrel
  by_cases hlt : i < ps.length
  ·have hlti : (i : Int) < (ps.length : Int) := by omega
   have hrow := ownsRow_mod H.out.row hM.out (H.out.vf_row i)
   obtain ⟨a9, cap9, hv9, g1, g2, g3, g4, g5, g6⟩ := ReadsN.of_own hrow (prcs_one ps us HONE.out)
   obtain ⟨rfl, _, rfl⟩ := Value.slice.inj hv9
   obtain ⟨b, off, rfl, hc⟩ : ∃ b off, va = some ⟨b, off, none⟩ /\ ∀ j u, (prcs ps us)[j]? = some u -> wr.cell? ⟨b, off + j, none⟩ = some u := by
    rcases g6 with g6 | g6
    ·omega
    ·exact g6
   obtain ⟨e0, e1, e2⟩ := prcs_get ps us i hlt H.out.len
   have c0 := hc _ _ e0
   have c1 := hc _ _ e1
   have c2 := hc _ _ e2
   rw [<- Nat.add_assoc] at c1 c2
   obtain ⟨u, hu1, hu2⟩ := H.out.each i hlt
   have hu3 := ownsRow_mod hu2 hM.out (H.out.vf_val hu1)
   have hue : us[i]'(by rw [H.out.len]; exact hlt) = u := by
    have := hu1
    rw [List.getElem?_eq_getElem (by rw [H.out.len]; exact hlt)] at this
    exact Option.some.inj this
   rw [hue] at c1
   have HU1 := qh hu1
   have HUO := qh hu3
   have hvl1 := HVL.out _ (List.getElem_mem hlt)
   have HTK := qh (show prcs (ps.take (i + 1)) (svals (ps.take (i + 1))) = prcs (ps.take i) (svals (ps.take i)) ++ prc ps[i] (strV ps[i].val) by
    rw [List.take_succ_eq_append_getElem hlt, svals_append, prcs_append _ _ _ _ (svals_len _)]; simp [svals, prcs])
   have hbu := Bs.of_own hu3
   clear hrow hv9 g1 g2 g3 g4 g5 g6 hc e0 e1 e2 hu1 hu2 hu3 hue
   generalize ps[i] = pr at *
   obtain ⟨pk, pv, pn⟩ := pr
   simp only at c0 c1 c2 hbu hvl1 HUO
   unfold strV at c0
   obtain ⟨ua, uc, rfl⟩ := hbu.shape
   have hou : ∀ k, u3.ownBlock = some k -> w.heap.size <= k := fun k hk => (hO.out.lt k hk).1
   have huw : ∀ k, (Value.slice ua pv.length uc).ownBlock = some k -> k < w.heap.size := fun k hk => by
    obtain ⟨l, ho⟩ := H.out.mem (List.mem_of_getElem? HU1.out)
    exact (ho.lt k hk).2
   have hbw2 : b < w.heap.size := (H.out.row.lt b rfl).2
   have cv : ∀ w', Mod (fun k => u3.ownBlock = some k) wr w' -> (convert 56 9 (.slice ua pv.length uc)).run Tryz.prog w' = .ok (.string ⟨pv.toArray⟩) w' := fun w' hw => Bs.toString (Reads.mod hbu hw (fun k hk e => by have := hou k e; have := huw k hk; omega)) 56 9 5 Tryz.underlying56 Tryz.underlying5 Tryz.underlying9
   have hKP : ∀ w', Mod (fun k => u3.ownBlock = some k) wr w' -> (Mod (fun k => u3.ownBlock = some k) wr w' /\ w'.cell? ⟨b, off + i * 3, none⟩ = some (.string ⟨pk.toArray⟩) /\ w'.cell? ⟨b, off + i * 3 + 1, none⟩ = some (.slice ua pv.length uc) /\ w'.cell? ⟨b, off + i * 3 + 2, none⟩ = some (.int .u64 (pn : Int))) := fun w' hw => ⟨hw, hw.cell c0 (fun e => by have := hou b e; omega), hw.cell c1 (fun e => by have := hou b e; omega), hw.cell c2 (fun e => by have := hou b e; omega)⟩
   have hx0 := Ext.of_drew wr
   have hbw := hM.out.size
   have hxa := hx0.trans (Ext.of_alloc wr.drew (.cells #[.string ⟨pk.toArray⟩, .string ⟨pv.toArray⟩, .int .u64 (pn : Int)] 127))
   have hrow1 := ReadsN.row 3 wr.drew [.string ⟨pk.toArray⟩, .string ⟨pv.toArray⟩, .int .u64 (pn : Int)] 127 1 rfl (by unfold maxLen; omega) (by simp [Value.oneCell'])
   clear hbu
   go_upto_region 5 with fail
   go_region_held3 (fun v => Mod (fun k => u3.ownBlock = some k) wr v /\ v.cell? ⟨b, off + i * 3, none⟩ = some (.string ⟨pk.toArray⟩) /\ v.cell? ⟨b, off + i * 3 + 1, none⟩ = some (.slice ua pv.length uc) /\ v.cell? ⟨b, off + i * 3 + 2, none⟩ = some (.int .u64 (pn : Int))) (first
    | exact hKP _ (Mod.of_ext hx0)
    | exact hKP _ (Mod.of_ext hxa)
    | exact hKP _ hm5) (first
    | (refine step_appg el_rpair w.heap.size _ (Nat.le_trans hbw hxa.size) rfl _ _ rfl u3 i _ rfl (hxa.keptOwn hO.out) (.slice (some ⟨wr.drew.heap.size, 0, none⟩) 1 1) 1 _ rfl hrow1 (by omega) (by omega) ?_; intro v5 w5 hown5 hg5; have hm5 : Mod (fun k => u3.ownBlock = some k) wr w5 := Mod.trans (Mod.of_ext hxa) (Mod.grown (F := fun k => u3.ownBlock = some k) hg5 (fun z e _ => e)) (fun _ _ h => h)))
   have HO5 := qh (show w5.ownsRow w.heap.size 127 3 v5 (i + 1) (prcs (ps.take (i + 1)) (svals (ps.take (i + 1)))) by rw [HTK.out]; exact hown5)
   have HU5 := qh (ownsRow_mod HUO.out hm5 (fun k hk e => by have := hou k e; have := huw k hk; omega))
   have HM5 := qh (show Mod (VF us i) w w5 from Mod.trans hM.out hm5 (fun k hk e => by have := hou k e; omega))
   have d1 := (hKP _ hm5).2.2.1
   have hub : ∀ k, (Value.slice ua pv.length uc).ownBlock = some k -> ¬ b = k := fun k hk e => by
    subst e
    exact H.out.apart (List.mem_of_getElem? HU1.out) hk rfl
   have HUW := qh huw
   have HUB := qh hub
   have hpvl : (pv.length : Int) <= 1000000 := by omega
   clear hown5 hg5 hm5 hKP cv hrow1 hxa hx0 c0 c1 c2 hou huw hub hO hM
   go_wp2_with fail
   go_loopw [5] (fun jv wr2 => ∃ (j : Nat) (B : List UInt8), j <= pv.length /\ B.length = pv.length /\ jv = .int .i64 (j : Int) /\ Hid (wr2.ownsRow base 5 1 (.slice ua pv.length uc) pv.length (B.map byteVal)) /\ Hid (Mod (fun k => (Value.slice ua pv.length uc).ownBlock = some k) w5 wr2)) (fun jv _ => pv.length - (intOf jv).toNat)
   case atStart => exact ⟨0, pv, Nat.zero_le _, rfl, rfl, HU5, Mod.refl _ _⟩
   case round =>
    obtain ⟨j, B, hj, hB, rfl, hU, hM2⟩ := hrel
    have d1' := hM2.out.cell d1 (fun e => HUB.out b e rfl)
    by_cases hlt2 : j < pv.length
    ·have hlt2i : (j : Int) < (pv.length : Int) := by omega
     obtain ⟨g, cap, hgv, -, -, -, -, hgc⟩ := own_open hU.out (by omega)
     obtain ⟨rfl, _, rfl⟩ := Value.slice.inj hgv
     have hcell := hU.out.cellAt j (by rw [Nat.mul_one]; exact hlt2)
     rw [List.getElem?_map, List.getElem?_eq_getElem (by omega)] at hcell
     simp only [Option.map_some] at hcell
     have hfro := hU.out.frozenAt j
     have hst := (hU.out.stored j (byteVal 204)).1
     rw [<- List.map_set] at hst
     have HST := qh hst
     have hms := Mod.setCell (F := fun k => (Value.slice (some ⟨g, 0, none⟩) pv.length uc).ownBlock = some k) (wr) ⟨g, j, none⟩ (byteVal 204) rfl
     have HMS := qh (Mod.trans hM2.out hms (fun _ _ h => h))
     clear hst hms hgc hgv
     have hbv : byteVal 204 = .int .u8 204 := rfl
     rw [hbv] at HST HMS
     clear hbv
     obtain ⟨z, hz⟩ : ∃ z : Int, byteVal (B[j]'(by omega)) = .int .u8 z := ⟨_, rfl⟩
     rw [hz] at hcell
     clear hz
     go_wp2
     exact ⟨⟨j + 1, B.set j 204, by omega, by rw [List.length_set]; exact hB, by go_num, HST, HMS⟩, by simp [intOf]; omega⟩
    ·obtain rfl : j = pv.length := by omega
     have HO6 := qh (ownsRow_mod HO5.out hM2.out (fun k hk e => by have := (HO5.out.lt k hk).1; have := HUW.out k e; omega))
     have HM6 := qh (show Mod (VF us (i + 1)) w wr from Mod.trans (HM5.out.mono (VF.mono (Nat.le_succ i))) hM2.out (fun k _ e => ⟨i, _, Nat.lt_succ_self i, HU1.out, e⟩))
     clear d1
     go_wp2
     exact ⟨⟨i + 1, by omega, by go_num, HO6, HM6⟩, by simp [intOf]; omega⟩
  ·obtain rfl : i = ps.length := by omega
   rw [List.take_length] at hO
   go_wp2
   go_ret
   exact ⟨_, rfl, hO.out, hM.out⟩
end Go.Proofs.YtnjfioikpajhlaaGreat
namespace Go.Proofs.YtnjfioikpajhlaaGreat
open Go.RowKit Go.Shelf
namespace S6
theorem range_all (l : List Pr) : range l [] [] = l := by
 unfold range
 rw [List.filter_eq_self]
 intro p _
 unfold inR
 simp
end S6
section
variable {w0 w : World} {X : Nat -> Prop} {p q : Nat} {S : S6.St}
end
end Go.Proofs.YtnjfioikpajhlaaGreat
