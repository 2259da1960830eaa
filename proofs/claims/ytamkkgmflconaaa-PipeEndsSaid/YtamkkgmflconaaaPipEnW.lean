/- The walk of cloisterlaw13.PipeEnds. No condition but those written in the statement. -/
import Derived.Test.YtamkkgmflconaaaPipEn
import Derived.Test.YtamkkgmflconaaaMix
import Derived.Test.YtamkkgmflconaaaWithin
namespace Go.Proofs.Ytamkkgmflconaaa.St
open Go.RowKit
set_option linter.unusedVariables false

theorem pa_start {w : World} {t : Nat} {L : Lay} {d q : Nat} {W : World} (h : Std w t L d q (csN 0) W) : Std w t L d q (paN 0) W := h

attribute [local irreducible] Int.lt Int.le csN paN
set_option maxRecDepth 100000 in
set_option maxHeartbeats 4000000 in
theorem pipeEnds_walk (a0 : Int) (a1 : Int) (a2 : Option Addr) (len2 cap2 : Nat) (w : World) (w0 : (Lit.int .i64 a0).wf = true) (w1 : (Lit.int .i64 a1).wf = true) (w2 : IsMix [.bool] w a2 len2 cap2) :
    Calls Try.prog 9 #[.int .i64 a0, .int .i64 a1, .slice a2 len2 cap2] w fun e w' => e = .returned (.bool true) ∧ Below w.heap.size w w' := by
  clear w0 w1
  go_enter Try.func9, Try.ntmps9
  go_wp2_with fail
  refine (s_new _).mono ?_; rintro e W1 ⟨t, d, q, L, rfl, S1⟩
  replace S1 := pa_start S1
  go_wp2_with fail
  go_loopw [8] (fun k wr => ∃ j : Nat, j ≤ 4 ∧ k = .int .i64 (j : Int) ∧ Std w t L d q (paN j) wr) (fun k _ => 4 - (intOf k).toNat)
  case atStart => exact ⟨0, by omega, rfl, S1⟩
  case round =>
    clear S1
    obtain ⟨j, j1, rfl, S2⟩ := hrel
    have c2 := S2.cell
    by_cases hlt : j < 4
    · have l1 : (j : Int) < 4 := by omega
      go_wp2_with fail
      refine (pe_alloc j hlt S2).mono ?_; rintro e W3 ⟨rfl, S3⟩
      clear S2 c2
      go_wp2_with fail
      exact ⟨⟨j + 1, by omega, by go_num, S3⟩, by simp [intOf]; omega⟩
    · obtain rfl : j = 4 := by omega
      clear hlt
      go_wp2_with fail
      refine (pe_full S2).mono ?_; rintro e W3 ⟨rfl, st3, R3, S3⟩
      have c3 := S3.cell
      clear S2 c2
      have wa := Fp.within_bounds a0 0 3 (by omega)
      have wb := Fp.within_bounds a1 0 3 (by omega)
      go_wp2_with fail
      refine (Fp.within_any a0 0 3 (by omega) (by omega) (by omega) _).mono ?_; rintro e W5 ⟨rfl, rfl⟩
      obtain ⟨a, ea⟩ := Int.eq_ofNat_of_zero_le wa.1
      rw [ea] at wa
      rw [ea]
      clear ea
      go_wp2_with fail
      refine (Fp.within_any a1 0 3 (by omega) (by omega) (by omega) _).mono ?_; rintro e W5 ⟨rfl, rfl⟩
      obtain ⟨b, eb⟩ := Int.eq_ofNat_of_zero_le wb.1
      rw [eb] at wb
      rw [eb]
      clear eb
      have wa5 : a ≤ 3 := by omega
      have wb5 : b ≤ 3 := by omega
      clear wa wb
      go_wp2_with fail
      refine (pe_ends R3 (by omega) (by omega) (by omega) false _ (1 + a) 1 (by omega) (by omega) (by simp; try omega) (by simp; try omega) S3).mono ?_; rintro e W5 ⟨rfl, st5, R5, S5⟩
      have c5 := S5.cell
      clear S3 c3 R3
      go_wp2_with fail
      refine (pe_ends R5 (by omega) (by omega) (by omega) true _ (1 + a) (1 + b) (by omega) (by omega) (by simp; try omega) (by simp; try omega) S5).mono ?_; rintro e W6 ⟨rfl, st6, R6, S6⟩
      clear S5 c5 R5
      go_wp2_with fail
      go_loopw [13, 14, 15] (fun x y z wr => ∃ (r v i : Nat) (st : VSt), x = .int .i64 (r : Int) ∧ y = .int .i64 (v : Int) ∧ z = .int .i64 (i : Int) ∧ r ≤ 4 ∧ v ≤ 4 ∧ i + r + v ≤ 8 ∧ ERel st r v ∧ Std w t L d q st wr) (fun x y _ _ => (intOf x + intOf y).toNat)
      case atStart => exact ⟨1 + a, 1 + b, 0, st6, by go_num, by go_num, rfl, by omega, by omega, by omega, R6, S6⟩
      case round =>
        clear R6 S6 wa5 wb5
        obtain ⟨r, v, i, st7, rfl, rfl, rfl, hr4, hw4, hi8, R7, S7⟩ := hrel
        have c7 := S7.cell
        have i0 : (0 : Int) ≤ (i : Int) := by omega
        by_cases hp : 0 < r + v
        · have hp1 : (0 : Int) < (r : Int) + (v : Int) := by omega
          by_cases hr : 0 < r
          · have hr1 : (0 : Int) < (r : Int) := by omega
            have hr2 : ¬ (r : Int) = 0 := by omega
            by_cases hv : 0 < v
            · have hv1 : (0 : Int) < (v : Int) := by omega
              have hv2 : ¬ (v : Int) = 0 := by omega
              go_wp2_with fail
              refine (pe_is R7 hp S7).mono ?_; rintro e W8 ⟨rfl, st8, R8, S8⟩
              have c8 := S8.cell
              clear S7 R7 c7
              go_wp2_with fail
              refine (pe_write1 R8 hr S8).mono ?_; rintro e Wa ⟨rfl, sta, Ra, Sa⟩
              have ca := Sa.cell
              clear S8 R8 c8
              go_wp2_with fail
              refine (pe_read Ra hp 2 (by rw [if_pos hv]) Sa).mono ?_; rintro e Wb ⟨rfl, stb, Rb, Sb⟩
              have cb := Sb.cell
              clear Sa Ra ca
              by_cases hl : i < len2
              · have hl1 : (i : Int) < (len2 : Int) := by omega
                rcases w2 with ⟨_, q2, _⟩ | ⟨x, rfl, x1, x2, hx⟩
                · omega
                obtain ⟨v0, ⟨k0, rfl⟩, g0⟩ := mix_first hx 1 rfl i hl .bool rfl
                have z0 : Wb.cell? (x.add i) = some (.bool k0) := by have := g0 _ Sb.b; rwa [Nat.mul_one] at this
                clear hx g0
                cases k0
                · go_wp2_with fail
                  refine (pe_ends Rb hr4 hw4 hp true (-1) (r) (v - 1) (by omega) (by omega) (by simp; try omega) (by simp; try omega) Sb).mono ?_; rintro e W9 ⟨rfl, st9, R9, S9⟩
                  clear Sb Rb
                  go_wp2_with fail
                  exact ⟨⟨r, v - 1, i + 1, st9, by go_num, by go_num, by go_num, by omega, by omega, by omega, R9, S9⟩, by simp [intOf]; omega⟩
                · go_wp2_with fail
                  refine (pe_ends Rb hr4 hw4 hp false (-1) (r - 1) (v) (by omega) (by omega) (by simp; try omega) (by simp; try omega) Sb).mono ?_; rintro e W9 ⟨rfl, st9, R9, S9⟩
                  clear Sb Rb
                  go_wp2_with fail
                  exact ⟨⟨r - 1, v, i + 1, st9, by go_num, by go_num, by go_num, by omega, by omega, by omega, R9, S9⟩, by simp [intOf]; omega⟩
              · have hl1 : ¬ (i : Int) < (len2 : Int) := by omega
                clear w2
                go_wp2_with fail
                refine (pe_ends Rb hr4 hw4 hp true (-1) (r) (v - 1) (by omega) (by omega) (by simp; try omega) (by simp; try omega) Sb).mono ?_; rintro e W9 ⟨rfl, st9, R9, S9⟩
                clear Sb Rb
                go_wp2_with fail
                exact ⟨⟨r, v - 1, i + 1, st9, by go_num, by go_num, by go_num, by omega, by omega, by omega, R9, S9⟩, by simp [intOf]; omega⟩
            · obtain rfl : v = 0 := by omega
              clear w2
              go_wp2_with fail
              refine (pe_is R7 hp S7).mono ?_; rintro e W8 ⟨rfl, st8, R8, S8⟩
              have c8 := S8.cell
              clear S7 R7 c7
              go_wp2_with fail
              refine (pe_write1 R8 hr S8).mono ?_; rintro e Wa ⟨rfl, sta, Ra, Sa⟩
              have ca := Sa.cell
              clear S8 R8 c8
              go_wp2_with fail
              refine (pe_read Ra hp 0 (by rw [if_neg hv]) Sa).mono ?_; rintro e Wb ⟨rfl, stb, Rb, Sb⟩
              have cb := Sb.cell
              clear Sa Ra ca
              go_wp2_with fail
              refine (pe_ends Rb hr4 hw4 hp false (-1) (r - 1) 0 (by omega) (by omega) (by simp; try omega) (by simp; try omega) Sb).mono ?_; rintro e W9 ⟨rfl, st9, R9, S9⟩
              clear Sb Rb
              go_wp2_with fail
              exact ⟨⟨r - 1, 0, i + 1, st9, by go_num, by go_num, by go_num, by omega, by omega, by omega, R9, S9⟩, by simp [intOf]; omega⟩
          · obtain rfl : r = 0 := by omega
            have hv : 0 < v := by omega
            have hv1 : (0 : Int) < (v : Int) := by omega
            have hv2 : ¬ (v : Int) = 0 := by omega
            clear w2
            go_wp2_with fail
            refine (pe_is R7 hp S7).mono ?_; rintro e W8 ⟨rfl, st8, R8, S8⟩
            have c8 := S8.cell
            clear S7 R7 c7
            go_wp2_with fail
            refine (pe_write0 R8 hp S8).mono ?_; rintro e Wa ⟨rfl, sta, Ra, Sa⟩
            have ca := Sa.cell
            clear S8 R8 c8
            go_wp2_with fail
            refine (pe_read Ra hp 2 (by rw [if_pos hv]) Sa).mono ?_; rintro e Wb ⟨rfl, stb, Rb, Sb⟩
            have cb := Sb.cell
            clear Sa Ra ca
            go_wp2_with fail
            refine (pe_ends Rb hr4 hw4 hp true (-1) 0 (v - 1) (by omega) (by omega) (by simp; try omega) (by simp; try omega) Sb).mono ?_; rintro e W9 ⟨rfl, st9, R9, S9⟩
            clear Sb Rb
            go_wp2_with fail
            exact ⟨⟨0, v - 1, i + 1, st9, by go_num, by go_num, by go_num, by omega, by omega, by omega, R9, S9⟩, by simp [intOf]; omega⟩
        · obtain rfl : r = 0 := by omega
          obtain rfl : v = 0 := by omega
          clear w2
          go_wp2_with fail
          refine (pe_gone R7 S7).mono ?_; rintro e W8 ⟨rfl, st8, R8, S8⟩
          have c8 := S8.cell
          clear S7 R7 c7
          go_wp2_with fail
          refine (pe_noends R8 S8).mono ?_; rintro e W9 ⟨rfl, st9, R9, S9⟩
          have c9 := S9.cell
          clear S8 R8 c8
          go_wp2_with fail
          refine (pe_other R9 S9).mono ?_; rintro e Wa ⟨rfl, sta, Ra, Sa⟩
          have ca := Sa.cell
          clear S9 R9 c9
          go_wp2_with fail
          refine (pe_again Ra Sa).mono ?_; rintro e Wb ⟨rfl, bb⟩
          clear Sa Ra ca
          go_wp2_with fail
          refine (pruns_any _).mono ?_; rintro e Wd ⟨rfl, td⟩
          go_wp2_with fail
          go_ret
          exact ⟨rfl, bb.trans (td.mono bb.size)⟩
end Go.Proofs.Ytamkkgmflconaaa.St
