/- The walk of cloisterlaw10.InodeApart. No condition but those written in the statement. -/
import Derived.Test.YtamkkgmflconaaaInoAp
import Derived.Test.YtamkkgmflconaaaLawKit
import Derived.Test.YtamkkgmflconaaaWithin
import Derived.StillTailTactics
import Derived.Deep.RegionHeld3
import Derived.Deep.DrawnRows
namespace Go.Proofs.Ytamkkgmflconaaa.St
open Go.RowKit
set_option linter.unusedVariables false

theorem cs_start0 {W : World} {L : Lay} (h : ViewAt W L (VSt.fresh fun _ => Val.zero)) : ViewAt W L (csN 0) := h

attribute [local irreducible] Int.lt Int.le csN
attribute [local go_sem ↓] Go.wp_at_zero Go.wp_at_succ
set_option maxRecDepth 100000 in
set_option maxHeartbeats 4000000 in
theorem inodeApart_walk (a0 : Option Addr) (len0 cap0 : Nat) (z0 : Nat → Nat → Int) (a1 : Int) (w : World) (w0 : IsRows 5 w a0 len0 cap0 z0) (w1 : (Lit.int .i64 a1).wf = true) :
    Calls Try.prog 6 #[.slice a0 len0 cap0, .int .i64 a1] w fun e w' => e = .returned (.bool true) ∧ Below w.heap.size w w' := by
  go_enter Try.func6, Try.ntmps6
  go_wp2_with fail
  refine (tnew_nil _).mono ?_; rintro e W1 ⟨t, d, q, L, rfl, hT1, hv1, hq1, b1, gt, gd, gv, gs, gl, gr, gm⟩
  go_wp2_with fail
  have S1 : Std w t L d q (csN 0) W1 := ⟨cs_start0 hv1, hT1, b1, gr, gm⟩
  clear hq1 hv1 hT1 b1 gt gd gv gs gl gr gm
  go_loopw [6] (fun k wr => ∃ j : Nat, j ≤ 3 ∧ k = .int .i64 (j : Int) ∧ Std w t L d q (csN j) wr) (fun k _ => 3 - (intOf k).toNat)
  case atStart => exact ⟨0, by omega, rfl, S1⟩
  case round =>
    clear S1
    obtain ⟨j, j1, rfl, S2⟩ := hrel
    have c2 := S2.cell
    by_cases hlt : j < 3
    · have l1 : (j : Int) < 3 := by omega
      go_wp2_with fail
      refine (co_alloc j (by omega) S2).mono ?_; rintro e W3 ⟨rfl, S3, t3⟩
      clear S2 c2 t3
      go_wp2_with fail
      exact ⟨⟨j + 1, by omega, by go_num, S3⟩, by simp [intOf]; omega⟩
    · obtain rfl : j = 3 := by omega
      clear hlt
      go_wp2_with fail
      refine (ap_stays S2).mono ?_; rintro e W3 ⟨rfl, S3⟩
      have c3 := S3.cell
      clear S2 c2
      go_wp2_with fail
      refine (ap_links3 S3).mono ?_; rintro e W4 ⟨rfl, st4, A4, S4⟩
      clear S3 c3
      go_wp2_with fail
      go_loopw [9] (fun k wr => ∃ (j : Nat) (st : VSt), j ≤ 20 ∧ k = .int .i64 (j : Int) ∧ AP st ∧ Std w t L d q st wr) (fun k _ => 20 - (intOf k).toNat)
      case atStart => exact ⟨0, st4, by omega, rfl, A4, S4⟩
      case round =>
        clear A4 S4
        obtain ⟨j, st5, j1, rfl, A5, S5⟩ := hrel
        have c5 := S5.cell
        by_cases hlt : j < len0 ∧ j < 20
        · rcases w0 with ⟨_, q2, _⟩ | ⟨x, rfl, x1, x2, hx⟩
          · omega
          have hz := (rows_field hx S5.b j hlt.1).1
          have z1 := hz 1 (by omega) (by omega)
          have z2 := hz 2 (by omega) (by omega)
          have z3 := hz 3 (by omega) (by omega)
          have z4 := hz 4 (by omega) (by omega)
          have z00 := (rows_field hx S5.b j hlt.1).2 (by omega)
          have l1 : (j : Int) < len0 := by omega
          have l2 : (j : Int) < 20 := by omega
          clear hz
          go_wp2_with fail
          have wb := Fp.within_bounds (z0 j 1) 0 1 (by omega)
          refine (Fp.within_any (z0 j 1) 0 1 (by omega) (by omega) (by omega) _).mono ?_; rintro e W6 ⟨rfl, rfl⟩
          generalize Fp.withinI (z0 j 1) 0 1 = g at *
          have hg : g = 0 ∨ g = 1 := by omega
          clear wb
          obtain ⟨i, hi, hi2⟩ : ∃ i : Int, (i = 1 ∨ i = 3) ∧ i = 1 + 2 * g := ⟨_, by omega, rfl⟩
          have hn : z0 j 0 = 2 ∨ (z0 j 0 ≠ 2 ∧ z0 j 0 = 4) ∨ (z0 j 0 ≠ 2 ∧ z0 j 0 ≠ 4) := by omega
          rcases hn with hn | ⟨hn, hn4⟩ | ⟨hn, hn4⟩
          case' inl =>
            rw [hn] at z00
            go_wp2_with fail
            rw [← hi2]
            clear hi2 hg
            refine wp_region_still_tail 12 (by kernel_rfl) (by kernel_rfl) ?_
            simp only [List.take_succ_cons, List.take_zero, List.drop_succ_cons, List.drop_zero]
            repeat still_step
            still_call ((Fp.within_any (z0 j 2) 0 3 (by omega) (by omega) (by omega) _).mono fun e w' ⟨p, q⟩ => ⟨p, q.symm⟩)
            have wc := Fp.within_bounds (z0 j 2) 0 3 (by omega)
            generalize Fp.withinI (z0 j 2) 0 3 = n0 at *
            repeat still_step
            refine wpStill_nil ?_
            change wpList _ _ _ _ _ wr.drew
            have S6 := S5.drew
            clear c5 z1 z2 z3 z4 z00 S5
            generalize wr.drew = W6 at *
            go_wp2_with fail
            refine (ap_change A5 i hi _ 1 S6).mono ?_; rintro e W7 ⟨x7, rfl, st7, A7, S7⟩
            have c7 := S7.cell
            clear S6 A5
            go_wp2_with fail
          case' inr.inl =>
            rw [hn4] at z00
            go_wp2_with fail
            rw [← hi2]
            clear hi2 hg
            have wb := Fp.within_bounds (z0 j 2) 0 9 (by omega)
            have wc := Fp.within_bounds (z0 j 4) 0 30 (by omega)
            have hr := fun W b => (rows_field (w' := W) hx b j hlt.1).1
            have cd : wr.drew.cell? ⟨t, 1, none⟩ = _ := S5.drew.cell
            have Sd := S5.drew
            have zd2 := hr _ Sd.b 2 (by omega) (by omega)
            have zd4 := hr _ Sd.b 4 (by omega) (by omega)
            clear c5 z1 z2 z3 z4 z00 S5
            have ij0 : (0 : Int) ≤ (j : Int) := by omega
            go_region_held3 (fun W => W.cell? ⟨t, 1, none⟩ = some (.pointer (some ⟨L.v, 0, none⟩)) ∧ W.cell? ⟨(x.add (j * 5)).block, (x.add (j * 5)).off + 2, none⟩ = some (.int .i64 (z0 j 2)) ∧ W.cell? ⟨(x.add (j * 5)).block, (x.add (j * 5)).off + 4, none⟩ = some (.int .i64 (z0 j 4)))
              (first | exact ⟨cd, zd2, zd4⟩ | exact ⟨S6.cell, hr _ S6.b 2 (by omega) (by omega), hr _ S6.b 4 (by omega) (by omega)⟩ | exact ⟨S7.cell, hr _ S7.b 2 (by omega) (by omega), hr _ S7.b 4 (by omega) (by omega)⟩)
              (first
              | (go_at_call 21; refine (Fp.within_any _ _ _ (by omega) (by omega) (by omega) _).mono ?_; rintro e Wx ⟨rfl, rfl⟩)
              | (go_at_call 22; refine (text_any (j : Int) (Fp.withinI (z0 j 4) 0 30) (by omega) (by omega) _).mono ?_; rintro e W6 ⟨D0, rfl, hD0, t6⟩; have S6 := Sd.below t6; have c6 := S6.cell)
              | (go_at_call 16; refine (ap_write A5 i hi _ D0 (by omega) S6).mono ?_; rintro e W7 ⟨x7, rfl, st7, A7, S7⟩))
            all_goals
              have c7 := S7.cell
              clear S6 A5 Sd zd2 zd4 cd hD0 t6 c6
              go_wp2_with fail
          case' inr.inr =>
            have hn2 : decide (z0 j 0 = 2) = false := decide_eq_false hn
            have hn3 : decide (z0 j 0 = 4) = false := decide_eq_false hn4
            go_wp2_with fail
            rw [← hi2]
            clear hi2 hg
            refine wp_region_still_tail 15 (by kernel_rfl) (by kernel_rfl) ?_
            simp only [List.take_succ_cons, List.take_zero, List.drop_succ_cons, List.drop_zero]
            repeat still_step
            refine wpStill_nil ?_
            change wpList _ _ _ _ _ wr.drew
            have S6 := S5.drew
            clear c5 z1 z2 z3 z4 z00 S5
            generalize wr.drew = W6 at *
            go_wp2_with fail
            refine (ap_read A5 i hi _ _ S6).mono ?_; rintro e W7 ⟨x7, rfl, st7, A7, S7⟩
            have c7 := S7.cell
            clear S6 A5
            go_wp2_with fail
          all_goals
            clear hn
            refine (ap_read2 A7 S7).mono ?_; rintro e W8 ⟨rfl, st8, A8, S8⟩
            have c8 := S8.cell
            clear A7 S7 c7
            go_wp2_with fail
            refine (ap_links A8 S8).mono ?_; rintro e W9 ⟨rfl, st9, A9, S9⟩
            have c9 := S9.cell
            clear A8 S8 c8
            go_wp2_with fail
            refine (ap_type A9 S9).mono ?_; rintro e Wa ⟨rfl, sta, Aa, Sa⟩
            clear A9 S9 c9
            go_wp2_with fail
            exact ⟨⟨j + 1, sta, by omega, by go_num, Aa, Sa⟩, by simp [intOf]; omega⟩
        · clear w0
          rcases (show (len0 ≤ j ∧ (len0 : Int) ≤ j) ∨ (j < len0 ∧ (j : Int) < len0 ∧ (20 : Int) ≤ j) by omega) with ⟨l1, l2⟩ | ⟨l1, l2, l3⟩
          all_goals
            go_wp2_with fail
            have wo := Fp.within_bounds a1 0 30 (by omega)
            refine (Fp.within_any a1 0 30 (by omega) (by omega) (by omega) _).mono ?_; rintro e W6 ⟨rfl, rfl⟩
            generalize Fp.withinI a1 0 30 = g at *
            go_wp2_with fail
            have ho : 4 + g < 1 ∨ 4 ≤ 4 + g := by omega
            obtain ⟨o, hoo⟩ : ∃ o : Int, o = 4 + g := ⟨_, rfl⟩
            rw [← hoo] at ho
            rw [← hoo]
            clear wo hoo
            refine (ap_wout A5 o ho S5).mono ?_; rintro e W6 ⟨rfl, st6, A6, S6⟩
            have c6 := S6.cell
            clear A5 S5 c5
            go_wp2_with fail
            refine (ap_wout A6 0 (by omega) S6).mono ?_; rintro e W7 ⟨rfl, st7, A7, S7⟩
            have c7 := S7.cell
            clear A6 S6 c6
            go_wp2_with fail
            refine (ap_cout A7 o ho 1 1 S7).mono ?_; rintro e W8 ⟨rfl, st8, A8, S8⟩
            have c8 := S8.cell
            clear A7 S7 c7
            go_wp2_with fail
            refine (ap_rout A8 o ho S8).mono ?_; rintro e W9 ⟨rfl, st9, A9, S9⟩
            have c9 := S9.cell
            clear A8 S8 c8
            go_wp2_with fail
            refine (ap_sout A9 o ho S9).mono ?_; rintro e Wa ⟨rfl, sta, Aa, Sa⟩
            have ca := Sa.cell
            clear A9 S9 c9
            go_wp2_with fail
            refine (ap_iout Aa 0 (by omega) Sa).mono ?_; rintro e Wb ⟨rfl, bb⟩
            clear Aa Sa ca
            go_wp2_with fail
            refine (iruns_any _).mono ?_; rintro e Wd ⟨rfl, td⟩
            go_wp2_with fail
            go_ret
            exact ⟨rfl, bb.trans (td.mono bb.size)⟩
end Go.Proofs.Ytamkkgmflconaaa.St
