/- The contract of cloisterkeep.New of one write. No condition but those written in each statement. -/
import Derived.Test.YtfcgkjbifnhjjaaGreatDoorTwoFQ
import Derived.Test.YtfcgkjbifnhjjaaGreatDoorQ61
namespace Go.Proofs.YtfcgkjbifnhjjaaGreatDoor.St
open Go.RowKit
set_option linter.unusedVariables false
theorem Dbl.toStd {w W : World} {t : Nat} {L : Lay} {R : RLay} {a b : VSt} (H : Dbl w t L R a b W) : Std w t L R.d R.q a W :=
  ⟨H.p.v, H.tw, H.p.b, (H.f.lo L.r (by omega)).1, (H.f.lo L.m (by omega)).1⟩
theorem Dbl.leftStd {w W W' : World} {t : Nat} {L : Lay} {R : RLay} {a b a' : VSt} (H : Dbl w t L R a b W) (S : Std w t L R.d R.q a' W') (T : Maps L W W') : Dbl w t L R a' b W' :=
  H.left S.v T (fun i q => by omega)
theorem tnew_one (R : Nat) (k m : Int) (x : Val) (hk : k ≤ 9223372036854775807) (hp : 0 ≤ placeI k m) (hx : x.s = ByteArray.empty) (w : World) (hw : blk w R = some (.cells (wcells k m x) 62 (0, 0))) :
    Calls Tryz.prog 5 #[.slice (some ⟨R, 0, none⟩) 1 1] w fun e w' => ∃ t d q, ∃ L : Lay, e = .returned (.pointer (some ⟨t, 0, none⟩)) ∧ Std w t L d q (VSt.fresh (storePut (fun _ => Val.zero) k m x)) w' := by
  refine (dnew_base (some ⟨R, 0, none⟩) 1 1 (fun _ => ((k, m), x)) w (fun j hj => ⟨_, rfl, Nat.le_refl _, fun i v hv => ?_, hk, by rw [hx]; unfold maxLen; decide⟩)).mono ?_
  · obtain rfl : j = 0 := by omega
    have hv' : (wcells k m x)[i]? = some v := by
      have e : (wcs ((k, m), x)).toArray = wcells k m x := by unfold wcs; simp
      rw [← e]
      simpa using hv
    have e2 : (((⟨R, 0, none⟩ : Addr).add (0 * 19)).add i) = ⟨R, i, none⟩ := by simp only [Addr.add, Nat.zero_mul]; split <;> (try split) <;> simp_all
    rw [e2, World.cell?]
    have hw' : w.heap[R]? = _ := hw
    simp only [hw']
    exact hv'
  rintro e W' ⟨t, L, R, base, rfl, H, _, hb⟩
  have e1 : base = storePut (fun _ => Val.zero) k m x := by
    rw [hb]
    show storePut (fun _ => Val.zero) k m (x.text (cutS x.s)) = _
    rw [show x.text (cutS x.s) = x by rw [hx]; show x.text ByteArray.empty = x; rw [← hx]; rfl]
  rw [e1] at H
  exact ⟨t, R.d, R.q, L, rfl, H.toStd⟩
end Go.Proofs.YtfcgkjbifnhjjaaGreatDoor.St
