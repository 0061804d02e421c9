import Derived.Test.YtnjfioikpajhlaaGreatMSt5
import Derived.Test.YtnjfioikpajhlaaGreatWalX6
set_option maxRecDepth 100000
set_option maxHeartbeats 64000000
/- The store where the power goes off: what a commit leaves; a fuse under a store; a store opened behind a crash. -/
namespace Go.Proofs.YtnjfioikpajhlaaGreat
open Go.RowKit Go.Shelf
namespace S6
def aft (l : List Pr) (m : Nat) (ws : List Wr) : List Pr × Nat := if ws = [] then (l, m) else (apl l (m + 1) ws, m + 1)
def over (S : St) (d : D.Dsk) : St := ⟨⟨d, S.L.gen, S.L.recs, S.L.cl⟩, S.l, S.num, S.cl⟩
end S6
section
variable {w0 w w' : World} {X : Nat -> Prop} {p q : Nat} {S : S6.St} {d : D.Dsk}
theorem stod_fuse (h : Stod w0 w X p q S) (a : Int) (ha : a <= 9223372036854775807) :
 Calls Tryz.prog 15 #[.pointer (some ⟨p, 0, none⟩), .int .i64 a] w fun e w' => e = .returned (.int .i64 (D.fuseE S.L.d a)) /\ Stod w0 w' X p q (S6.over S (D.fuse S.L.d a)) /\ Keeps X w w' := by
 obtain ⟨Y, Z, ql, xv, x, n, nd, h1⟩ := h
 refine (logd_fuse h1.log a ha).mono ?_
 rintro e w' ⟨he, hL, hK⟩
 have e9 : (D.fuse S.L.d a).n = S.L.d.n := by unfold D.fuse; split <;> (try split) <;> rfl
 have hA : S6.areaS (S6.over S (D.fuse S.L.d a)) = S6.areaS S := W5.area_same e9
 refine ⟨he, ⟨Y, Z, ql, xv, x, n, nd, ⟨hL, h1.sub, h1.qY, h1.qX, h1.qb, h1.old, ?_, h1.idx.keeps (hK.less (fun k hk => (h1.zs k hk).1)), h1.zs, h1.ok, h1.fl, h1.nn, h1.dd, h1.pk, h1.nm, h1.ln⟩⟩, hK.less h1.sub⟩
 rw [hA]
 exact blk_mod h1.blk hK (fun hn => hn h1.qY)
end
end Go.Proofs.YtnjfioikpajhlaaGreat
