/- The walk of cloisterlaw12.PathTells. No condition but those written in each statement. -/
import Derived.Test.YtfcgkjbifnhjjaaGreatDoorQ12
import Derived.Test.YtfcgkjbifnhjjaaGreatDoorQ16
import Derived.Test.YtfcgkjbifnhjjaaGreatDoorQ15
import Derived.Test.YtfcgkjbifnhjjaaGreatDoorMix
import Derived.Deep.CutBlock
namespace Go.Proofs.YtfcgkjbifnhjjaaGreatDoor.St
open Go.RowKit
set_option linter.unusedVariables false
attribute [local irreducible] Int.lt Int.le
theorem PB.std {w W : World} {t : Nat} {L : Lay} {R : RLay} {a b : VSt} (H : Dbl w t L R a b W) : Std w t L R.d R.q a W :=
  ⟨H.p.v, H.tw, H.p.b, (H.f.lo L.r (by omega)).1, (H.f.lo L.m (by omega)).1⟩
theorem PB.left {w W W' : World} {t : Nat} {L : Lay} {R : RLay} {a b a' : VSt} (H : Dbl w t L R a b W) (S : Std w t L R.d R.q a' W') (T : Maps L W W') : Dbl w t L R a' b W' :=
  H.left S.v T (fun i q => by omega)
/-- Nothing was written. -/
def NW (st : VSt) : Prop := ∀ k n, st.wr k n = none
theorem NW.saw {st : VSt} (h : NW st) (k n : Int) : NW (st.saw k n) := by
  unfold VSt.saw
  split
  · exact h
  · exact h
theorem NW.iSaw {st : VSt} (h : NW st) (i : Int) : NW (iSaw st i) := by
  unfold St.iSaw
  split
  · exact h
  · exact h.saw _ _
theorem NW.wrL {st : VSt} (h : NW st) : wrL st = [] := by
  have e : wrP st = [] := by
    apply List.eq_nil_iff_forall_not_mem.2
    intro p hp
    unfold wrP at hp
    have := ((plF_mem _ _).1 hp).2.2
    rw [h] at this
    cases this
  unfold St.wrL
  rw [e]; rfl
/-- What is kept: objects alone, texts of bounded size, nothing written. -/
structure OkN (st : VSt) : Prop where
  o : Ok st
  n : NW st
theorem OkN.iSaw {st : VSt} (h : OkN st) (i : Int) : OkN (iSaw st i) := ⟨h.o.iSaw i, h.n.iSaw i⟩
theorem OkN.walkE (l : List ByteArray) : ∀ (st : VSt) (a : Int), OkN st → OkN (wsawE st a l) := by
  induction l with
  | nil => intro st a h; exact h
  | cons s l ih =>
    intro st a h
    unfold wsawE
    split
    · split
      · exact ih _ _ ((h.iSaw _).iSaw _)
      · exact (h.iSaw _).iSaw _
    · exact h.iSaw _
theorem OkN.walkO {st : VSt} (h : OkN st) (a : Int) (l : List ByteArray) : OkN (wsawO st a l) := by
  unfold wsawO
  split
  · exact OkN.walkE l _ _ (h.iSaw _)
  · exact h.iSaw _
theorem OkN.walk {st : VSt} (h : OkN st) (c : Int) (s : ByteArray) : OkN (pWalkV st c s) := by
  unfold pWalkV
  split
  · exact h.walkO _ _
  · exact h
theorem OkN.par {st : VSt} (h : OkN st) (c : Int) (s : ByteArray) : OkN (pParV st c s) := by
  unfold pParV
  split
  · unfold pParEV
    split
    · exact h
    · split
      · exact h.walkO _ _
      · exact (h.walkO _ _).iSaw _
  · exact h
theorem OkN.sn {st : VSt} (h : OkN st) : Sn st := fun i => by have := h.o.val i; omega
theorem OkN.sm {st : VSt} (h : OkN st) : Sm st := fun i => by have := h.o.val i; omega
theorem OkN.fresh {st : VSt} (h : OkN st) : OkN (VSt.fresh st.base) := ⟨⟨VOk.fresh _, Sz.fresh h.o.z.b⟩, fun _ _ => rfl⟩
/-- What the loop keeps. -/
def TRel (w : World) (t : Nat) (W : World) : Prop := ∃ st L R, Dbl w t L R st st W ∧ OkN st
set_option maxRecDepth 100000 in
set_option maxHeartbeats 4000000 in
theorem pathTells_walk (a0 : Option Addr) (len0 cap0 : Nat) (z0 : Nat → Wr) (a1 : Int) (a2 : Option Addr) (len2 cap2 : Nat) (w : World) (w0 : IsWrites w a0 len0 cap0 z0) (w1 : (Lit.int .i64 a1).wf = true) (w2 : IsMix [.str] w a2 len2 cap2) (hM : Mx w) :
    Calls Tryz.prog 4 #[.slice a0 len0 cap0, .int .i64 a1, .slice a2 len2 cap2] w fun e w' => e = .returned (.bool true) ∧ Below w.heap.size w w' := by
  have hz := zero_val
  clear w1
  go_enter Tryz.func4, Tryz.ntmps4
  go_wp2_with fail
  refine (dnew_any a0 len0 cap0 z0 w w0).mono ?_; rintro e w3 ⟨t, L, R, base, rfl, H, hzb⟩
  have O : OkN (VSt.fresh base) := ⟨⟨VOk.fresh _, Sz.fresh hzb⟩, fun _ _ => rfl⟩
  have I0 : TRel w t w3 := ⟨_, L, R, H, O⟩
  clear H O hzb w0
  go_upto_block 0 with fail
  go_cut [6, 8] from 24 to 128 (fun rt _ wx => rt = .bool false ∧ TRel w t wx)
  case first =>
    go_wp2_with fail
    go_loopw [6, 8] (fun rt i wr => rt = .bool false ∧ ∃ j : Nat, j ≤ len2 ∧ i = .int .i64 (j : Int) ∧ TRel w t wr) (fun _ i _ => len2 - (intOf i).toNat)
    case atStart => exact ⟨rfl, 0, by omega, rfl, I0⟩
    case round =>
      as_aux_lemma =>
        clear I0
        obtain ⟨rfl, j, hj, rfl, st, L, R, H, O⟩ := hrel
        have j0 : (0 : Int) ≤ (j : Int) := by omega
        by_cases hlt : j < len2
        · have l1 : (j : Int) < (len2 : Int) := by omega
          by_cases h25 : (j : Int) < 6
          · rcases w2 with ⟨_, q, _⟩ | ⟨x, rfl, hlc, hc, hx⟩
            · omega
            obtain ⟨v0, ⟨c, rfl, _⟩, y0⟩ := mix_first hx 1 rfl j hlt .str rfl
            have y0 := y0 wr H.p.b
            rw [Nat.mul_one] at y0
            clear hx
            have m0 : 0 ≤ min (c.size : Int) 70 := by omega
            have m1 : min (c.size : Int) 70 ≤ (c.size : Int) := by omega
            have hs : (c.extract 0 (min (c.size : Int) 70).toNat).size ≤ 500000 := by rw [ByteArray.size_extract]; omega
            go_upto_region 7 with fail
            go_quiet (fail)
            have H0 := H.below (below_drewN (Below.refl _ wr) nq)
            generalize wr.drewN nq = W1 at *
            generalize c.extract 0 (min (c.size : Int) 70).toNat = s at *
            clear H y0 m0 m1
            have cv := H0.cv
            go_wp2_with fail
            refine (s_Walk hM (PB.std H0) O.sm a1 s hs).mono ?_; rintro e W2 ⟨rfl, S2, t2⟩
            have H2 := PB.left H0 S2 t2
            clear H0 S2 t2 cv
            have cq := H2.cq
            go_wp2_with fail
            refine (rwalk_any R st O.sn a1 s hs _ H2.p.r).mono ?_; rintro e W3 ⟨rfl, v3, t3⟩
            have H3 := H2.right v3 t3 (fun i q => by omega)
            have O3 := O.walk a1 s
            clear H2 v3 t3 cq O
            generalize (pWalk st a1 s).getD 0 = P1 at *
            generalize (pWalk st a1 s).isSome = P2 at *
            generalize pWalkV st a1 s = st3 at *
            go_wp2_with fail
            refine (dsame_any H3 O3.o.v).mono ?_; rintro e W4 ⟨rfl, t4⟩
            have H4 := H3.below t4
            clear H3 t4
            go_wp2_with fail
            refine (dlook_any w t L.s L.l R.d R.s _ _ _ _ _ H4.p.v.sa H4.p.r.sa H4.tw H4.p.b H4.tz ⟨(H4.f.lo L.l (by omega)).1, (H4.f.ro R.s (by omega)).1⟩ H4.f.sl (by have := H4.f.lo L.l (by omega); omega) (by have := H4.f.ro R.s (by omega); omega)).mono ?_; rintro e W5 ⟨rfl, L', R', e1, e2, e3, e4, H5, T5⟩
            have O5 := O3.fresh
            generalize VSt.fresh st3.base = st5 at *
            clear H4 T5 O3 e1 e2 e3 e4
            have cv := H5.cv
            go_wp2_with fail
            refine (s_Parent hM (PB.std H5) O5.sm a1 s hs).mono ?_; rintro e W6 ⟨rfl, S6, t6⟩
            have H6 := PB.left H5 S6 t6
            clear H5 S6 t6 cv
            have cq := H6.cq
            go_wp2_with fail
            refine (rparent_any R' st5 O5.sn a1 s hs _ H6.p.r).mono ?_; rintro e W7 ⟨rfl, v7, t7⟩
            have H7 := H6.right v7 t7 (fun i q => by omega)
            have O7 := O5.par a1 s
            clear H6 v7 t7 cq O5
            generalize ((pPar st5 a1 s).getD (0, ⟨#[]⟩)).1 = P3 at *
            generalize ((pPar st5 a1 s).getD (0, ⟨#[]⟩)).2 = P4 at *
            generalize (pPar st5 a1 s).isSome = P5 at *
            generalize pParV st5 a1 s = st7 at *
            go_wp2_with fail
            refine (dsame_any H7 O7.o.v).mono ?_; rintro e W8 ⟨rfl, t8⟩
            have H8 := H7.below t8
            clear H7 t8
            have cv := H8.cv
            go_wp2_with fail
            refine (vredo_any L' st7 _ H8.p.v O7.o.v).mono ?_; rintro e W9 ⟨v9, rfl, own9, t9⟩
            have H9 := H8.below t9
            rw [O7.n.wrL] at own9
            obtain ⟨a9, c9, rfl, _, _⟩ := own9.form
            clear H8 t9 own9 cv
            go_wp2_with fail
            exact ⟨⟨rfl, j + 1, by omega, by go_num, _, L', R', H9, O7⟩, by simp [intOf]; omega⟩
          · go_wp2_with fail
            go_meet
            case rel => exact ⟨rfl, st, L, R, H, O⟩
        · have l1 : ¬ (j : Int) < (len2 : Int) := by omega
          go_wp2_with fail
          go_meet
          case rel => exact ⟨rfl, st, L, R, H, O⟩
  case rest =>
    clear w2
    obtain ⟨rfl, st, L, R, H, O⟩ := hcut
    as_aux_lemma =>
      have hb := H.p.b
      have hM2 := hM.below (Nat.le_refl _) hb
      clear H O I0
      go_wp2_with fail
      refine (pathRuns_any _ hM2).mono ?_; rintro e w5 ⟨rfl, t5⟩
      go_wp2_with fail
      go_ret
      exact ⟨rfl, hb.trans (t5.mono hb.size)⟩
end Go.Proofs.YtfcgkjbifnhjjaaGreatDoor.St
