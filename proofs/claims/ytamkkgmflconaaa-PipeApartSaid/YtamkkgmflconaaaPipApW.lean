/- The walk of cloisterlaw13.PipeApart. No condition but those written in the statement. -/
import Derived.Test.YtamkkgmflconaaaPipAp
import Derived.Test.YtamkkgmflconaaaMix
import Derived.Test.YtamkkgmflconaaaWithin
import Derived.StillTailTactics
import Derived.Deep.RegionHeld3
import Derived.Deep.DrawnRows
namespace Go.Proofs.Ytamkkgmflconaaa.St
open Go.RowKit
set_option linter.unusedVariables false

attribute [local irreducible] Int.lt Int.le csN
attribute [local go_sem ↓] Go.wp_at_zero Go.wp_at_succ
set_option maxRecDepth 100000 in
set_option maxHeartbeats 4000000 in
theorem pipeApart_walk (a0 : Option Addr) (len0 cap0 : Nat) (a1 : Int) (w : World) (w0 : IsMix [.int .i64, .int .i64, .int .i64, .bool] w a0 len0 cap0) (w1 : (Lit.int .i64 a1).wf = true) :
    Calls Try.prog 10 #[.slice a0 len0 cap0, .int .i64 a1] w fun e w' => e = .returned (.bool true) ∧ Below w.heap.size w w' := by
  go_enter Try.func10, Try.ntmps10
  go_wp2_with fail
  refine (s_new _).mono ?_; rintro e W1 ⟨t, d, q, L, rfl, S1⟩
  have c1 := S1.cell
  go_wp2_with fail
  refine (prun1 S1).mono ?_; rintro e W2 ⟨rfl, S2⟩
  have c2 := S2.cell
  clear S1 c1
  go_wp2_with fail
  refine (qa_alloc S2).mono ?_; rintro e W3 ⟨rfl, S3⟩
  have c3 := S3.cell
  clear S2 c2
  go_wp2_with fail
  refine (qa_stays S3).mono ?_; rintro e W4 ⟨rfl, st4, A4, S4⟩
  clear S3 c3
  go_wp2_with fail
  go_loopw [12] (fun k wr => ∃ (j : Nat) (st : VSt), j ≤ 20 ∧ k = .int .i64 (j : Int) ∧ QA st ∧ Std w t L d q st wr) (fun k _ => 20 - (intOf k).toNat)
  case atStart => exact ⟨0, st4, by omega, rfl, A4, S4⟩
  case round =>
    clear A4 S4
    obtain ⟨j, st5, j1, rfl, A5, S5⟩ := hrel
    have c5 := S5.cell
    by_cases hlt : j < len0 ∧ j < 20
    · rcases w0 with ⟨_, q2, _⟩ | ⟨x, rfl, x1, x2, hx⟩
      · omega
      obtain ⟨v0, ⟨k0, rfl, _⟩, g0⟩ := mix_first hx 4 rfl j hlt.1 (.int .i64) rfl
      obtain ⟨v2, ⟨k2, rfl, _⟩, g2⟩ := mix_field hx 4 rfl j hlt.1 2 (.int .i64) rfl (by omega)
      obtain ⟨v3, ⟨k3, rfl⟩, g3⟩ := mix_field hx 4 rfl j hlt.1 3 .bool rfl (by omega)
      have z0 := g0 _ S5.b
      have z2 := g2 _ S5.b
      have z3 := g3 _ S5.b
      have l1 : (j : Int) < len0 := by omega
      have l2 : (j : Int) < 20 := by omega
      have ij0 : (0 : Int) ≤ (j : Int) := by omega
      clear hx g0 w1
      have hn : k0 = 2 ∨ (k0 ≠ 2 ∧ k0 = 4) ∨ (k0 ≠ 2 ∧ k0 ≠ 4) := by omega
      rcases hn with hn | ⟨hn, hn4⟩ | ⟨hn, hn4⟩
      case inl =>
        rw [hn] at z0
        go_wp2_with fail
        refine wp_region_still_tail 11 (by kernel_rfl) (by kernel_rfl) ?_
        simp only [List.take_succ_cons, List.take_zero, List.drop_succ_cons, List.drop_zero]
        repeat still_step
        still_call ((Fp.within_any k2 0 20 (by omega) (by omega) (by omega) _).mono fun e w' ⟨p, q⟩ => ⟨p, q.symm⟩)
        refine wpStill_nil ?_
        change wpList _ _ _ _ _ wr.drew
        have S6 := S5.drew
        clear c5 z0 z2 z3 S5 g2 g3
        generalize wr.drew = W6 at *
        go_wp2_with fail
        refine (qa_read A5 _ S6).mono ?_; rintro e W7 ⟨x7, y7, rfl, st7, A7, S7⟩
        clear S6 A5
        go_wp2_with fail
        exact ⟨⟨j + 1, st7, by omega, by go_num, A7, S7⟩, by simp [intOf]; omega⟩
      case inr.inl =>
        rw [hn4] at z0
        go_wp2_with fail
        refine wp_region_still_tail 17 (by kernel_rfl) (by kernel_rfl) ?_
        simp only [List.take_succ_cons, List.take_zero, List.drop_succ_cons, List.drop_zero]
        repeat still_step
        still_call ((Fp.within_any k2 0 2 (by omega) (by omega) (by omega) _).mono fun e w' ⟨p, q⟩ => ⟨p, q.symm⟩)
        have wc := Fp.within_bounds k2 0 2 (by omega)
        generalize Fp.withinI k2 0 2 = n0 at *
        repeat still_step
        refine wpStill_nil ?_
        change wpList _ _ _ _ _ wr.drew
        have S6 := S5.drew
        clear c5 z0 z2 z3 S5 g2 g3
        generalize wr.drew = W6 at *
        go_wp2_with fail
        refine (qa_ends A5 _ _ S6).mono ?_; rintro e W7 ⟨x7, rfl, st7, A7, S7⟩
        clear S6 A5
        go_wp2_with fail
        exact ⟨⟨j + 1, st7, by omega, by go_num, A7, S7⟩, by simp [intOf]; omega⟩
      case inr.inr =>
        have hn2 : decide (k0 = 2) = false := decide_eq_false hn
        have hn3 : decide (k0 = 4) = false := decide_eq_false hn4
        go_wp2_with fail
        have wc := Fp.within_bounds k2 0 20 (by omega)
        have cd : wr.drew.cell? ⟨t, 1, none⟩ = _ := S5.drew.cell
        have Sd := S5.drew
        have zd2 := g2 _ Sd.b
        clear c5 z0 z2 z3 S5 g3
        go_region_held3 (fun W => W.cell? ⟨t, 1, none⟩ = some (.pointer (some ⟨L.v, 0, none⟩)) ∧ W.cell? ⟨(x.add (j * 4)).block, (x.add (j * 4)).off + 2, none⟩ = some (.int .i64 k2))
          (first | exact ⟨cd, zd2⟩ | exact ⟨S6.cell, g2 _ S6.b⟩ | exact ⟨S7.cell, g2 _ S7.b⟩)
          (first
          | (go_at_call 21; refine (Fp.within_any _ _ _ (by omega) (by omega) (by omega) _).mono ?_; rintro e Wx ⟨rfl, rfl⟩)
          | (go_at_call 22; refine (text_any (j : Int) (Fp.withinI k2 0 20) (by omega) (by omega) _).mono ?_; rintro e W6 ⟨D0, rfl, hD0, t6⟩; have S6 := Sd.below t6; have c6 := S6.cell)
          | (go_at_call 27; refine (qa_write A5 D0 (by omega) S6).mono ?_; rintro e W7 ⟨x7, y7, rfl, st7, A7, S7⟩))
        all_goals
          clear S6 A5 Sd zd2 cd hD0 t6 c6 g2
          go_wp2_with fail
          exact ⟨⟨j + 1, st7, by omega, by go_num, A7, S7⟩, by simp [intOf]; omega⟩
    · clear w0
      rcases (show (len0 ≤ j ∧ (len0 : Int) ≤ j) ∨ (j < len0 ∧ (j : Int) < len0 ∧ (20 : Int) ≤ j) by omega) with ⟨l1, l2⟩ | ⟨l1, l2, l3⟩
      all_goals
        go_wp2_with fail
        have wo := Fp.within_bounds a1 0 9 (by omega)
        refine (Fp.within_any a1 0 9 (by omega) (by omega) (by omega) _).mono ?_; rintro e W6 ⟨rfl, rfl⟩
        generalize Fp.withinI a1 0 9 = g at *
        go_wp2_with fail
        have ho : 4 + g < 0 ∨ 4 ≤ 4 + g := by omega
        have hm : -1 - (4 + g) < 0 ∨ 4 ≤ -1 - (4 + g) := by omega
        refine (qa_rout A5 (4 + g) 1 (Or.inl ho) S5).mono ?_; rintro e W6 ⟨rfl, st6, A6, S6⟩
        have c6 := S6.cell
        clear A5 S5 c5
        go_wp2_with fail
        refine (qa_wout A6 (-1 - (4 + g)) hm S6).mono ?_; rintro e W7 ⟨rfl, st7, A7, S7⟩
        have c7 := S7.cell
        clear A6 S6 c6
        go_wp2_with fail
        refine (qa_rout A7 0 (-1) (Or.inr (by omega)) S7).mono ?_; rintro e W8 ⟨rfl, st8, A8, S8⟩
        have c8 := S8.cell
        clear A7 S7 c7
        go_wp2_with fail
        refine (qa_last A8 S8).mono ?_; rintro e W9 ⟨rfl, st9, S9⟩
        have c9 := S9.cell
        clear A8 S8 c8
        go_wp2_with fail
        refine (qa_eout (4 + g) ho true 1 S9).mono ?_; rintro e Wa ⟨rfl, ba⟩
        clear S9 c9
        go_wp2_with fail
        refine (pruns_any _).mono ?_; rintro e Wd ⟨rfl, td⟩
        go_wp2_with fail
        go_ret
        exact ⟨rfl, ba.trans (td.mono ba.size)⟩
end Go.Proofs.Ytamkkgmflconaaa.St
