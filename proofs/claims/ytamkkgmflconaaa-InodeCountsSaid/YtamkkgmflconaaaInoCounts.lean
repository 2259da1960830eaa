/- The walk of cloisterlaw10.InodeCounts. No condition but those written in the statement. -/
import Derived.Test.YtamkkgmflconaaaInoCo
import Derived.Test.YtamkkgmflconaaaLawKit
import Derived.Test.YtamkkgmflconaaaWithin
namespace Go.Proofs.Ytamkkgmflconaaa.St
open Go.RowKit
set_option linter.unusedVariables false

/-- Which inodes have been met. -/
def metRow (k : Nat) : Array Value := (Array.range 16).map fun i => .bool (decide (1 ≤ i ∧ i < k))
theorem met_size (k : Nat) : (metRow k).size = 16 := by simp [metRow]
theorem met_at (k : Nat) (h : k < 16) : (metRow k)[k]? = some (.bool false) := by simp [metRow, h]
theorem met_set (k : Nat) (h : 1 ≤ k) : (metRow k).setIfInBounds k (.bool true) = metRow (k + 1) := by
  apply Array.ext
  · simp [metRow]
  · intro i a b
    have hi : i < 16 := by simpa [metRow] using b
    rw [Array.getElem_setIfInBounds (by simpa [metRow] using hi)]
    by_cases e : k = i
    · subst e
      rw [if_pos rfl]
      simp only [metRow, Array.getElem_map, Array.getElem_range]
      rw [decide_eq_true (by omega)]
    · rw [if_neg e]
      simp only [metRow, Array.getElem_map, Array.getElem_range]
      congr 1
      rw [decide_eq_decide]
      omega
theorem zero_met (W : World) : (zeroValue 47).run Try.prog W = .ok (.agg (metRow 1)) W := by kernel_rfl

theorem cs_start {W : World} {L : Lay} (h : ViewAt W L (VSt.fresh fun _ => Val.zero)) : ViewAt W L (csN (1 - 1)) := h

attribute [local irreducible] Int.lt Int.le csN
set_option maxRecDepth 100000 in
set_option maxHeartbeats 4000000 in
theorem inodeCounts_walk (a0 : Option Addr) (len0 cap0 : Nat) (z0 : List Int) (a1 : Int) (a2 : Int) (w : World) (w0 : IsRow .i64 w a0 len0 cap0 z0) (w1 : (Lit.int .i64 a1).wf = true) (w2 : (Lit.int .i64 a2).wf = true) :
    Calls Try.prog 5 #[.slice a0 len0 cap0, .int .i64 a1, .int .i64 a2] w fun e w' => e = .returned (.bool true) ∧ Below w.heap.size w w' := by
  have hz47 := zero_met
  go_enter Try.func5, Try.ntmps5
  go_wp2_with fail
  refine (tnew_nil _).mono ?_; rintro e W1 ⟨t, d, q, L, rfl, hT1, hv1, hq1, b1, gt, gd, gv, gs, gl, gr, gm⟩
  go_wp2_with fail
  have S1 : Std w t L d q (csN (1 - 1)) W1 := ⟨cs_start hv1, hT1, b1, gr, gm⟩
  have S2 : Std w t L d q (csN (1 - 1)) (W1.alloc (.cells (metRow 1) 47)) := S1.below ((Below.refl _ W1).alloc (Nat.le_refl _) _)
  have hM2 : blk (W1.alloc (.cells (metRow 1) 47)) W1.heap.size = some (.cells (metRow 1) 47 (0, 0)) := blk_alloc_at _ _ _ rfl
  have gB := b1.size
  have ltB := hv1.lts
  have ltt := blk_lt hT1
  clear hq1 hv1 hT1 b1 S1
  generalize W1.alloc (.cells (metRow 1) 47) = W2 at *
  generalize W1.heap.size = B at *
  go_loopw [9] (fun k wr => ∃ j : Nat, 1 ≤ j ∧ j ≤ 16 ∧ k = .int .i64 (j : Int) ∧ Std w t L d q (csN (j - 1)) wr ∧ blk wr B = some (.cells (metRow j) 47 (0, 0))) (fun k _ => 16 - (intOf k).toNat)
  case atStart => exact ⟨1, by omega, by omega, rfl, S2, hM2⟩
  case round =>
    clear S2 hM2
    obtain ⟨j, j1, j2, rfl, S3, hM3⟩ := hrel
    have c3 := S3.cell
    by_cases hlt : j < 16
    · have l1 : (j : Int) < 16 := by omega
      have l0 : (0 : Int) ≤ (j : Int) := by omega
      go_wp2_with fail
      have hc := co_alloc (j - 1) (by omega) S3
      rw [show j - 1 + 1 = j by omega] at hc
      refine hc.mono ?_; rintro e W4 ⟨rfl, S4, t4⟩
      have hM4 := S3.other t4 hM3
      have m4 := cell_of_row W4 B j _ _ _ hM4
      rw [met_at j hlt] at m4
      have f4 := frozen_blk hM4 j
      clear S3 hM3 c3 t4
      go_wp2_with fail
      have tl : Turn (· = B) W4 (W4.setCell ⟨B, j, none⟩ (.bool true)) := (Turn.refl (· = B) W4).setCell (p := ⟨B, j, none⟩) (Or.inl (show B = B from rfl)) _
      have hM5 := blk_setCell_same hM4 j (.bool true)
      rw [met_set j j1] at hM5
      refine ⟨⟨j + 1, by omega, by omega, by go_num, ⟨S4.v.keep tl (fun i q => by have : i = B := q; omega), blk_of_turn tl S4.t (by omega), S4.b.trans (tl.below (B := w.heap.size) S4.b.size (fun i q => by have : i = B := q; omega)), S4.r, S4.m⟩, hM5⟩, by simp [intOf]; omega⟩
    · obtain rfl : j = 16 := by omega
      clear hM3
      go_wp2_with fail
      refine (co_full 1 S3).mono ?_; rintro e W4 ⟨rfl, st4, hA4, S4⟩
      have c4 := S4.cell
      clear S3 c3
      have wa := Fp.within_bounds a1 0 5 (by omega)
      have wb := Fp.within_bounds a2 1 5 (by omega)
      have wi := Fp.within_bounds (z0.getD 0 0) 1 15 (by omega)
      have hl : (len0 = 0 ∧ (len0 : Int) = 0) ∨ (0 < (len0 : Int) ∧ ∃ x, a0 = some x ∧ W4.cell? x = some (.int .i64 (z0.getD 0 0))) := by
        rcases w0 with ⟨_, q2, _⟩ | ⟨x, q1, q2, q3, q4, q5, q6⟩
        · exact Or.inl ⟨q2, by omega⟩
        · by_cases q : len0 = 0
          · exact Or.inl ⟨q, by omega⟩
          · have := q5 0 (by omega)
            have e0 : x.add 0 = x := rfl
            rw [e0] at this
            exact Or.inr ⟨by omega, x, q1, (S4.b.cell (cell_block_lt this)).trans this⟩
      clear w0
      generalize z0.getD 0 0 = y at *
      have hi : ∀ i : Int, i = 1 ∨ i = Fp.withinI y 1 15 → 1 ≤ i ∧ i ≤ 15 := by omega
      clear wi
      rcases hl with ⟨rfl, hl⟩ | ⟨hl, x, rfl, hx⟩
      case' inl =>
        have gi1 : (1 : Int) ≤ 1 := by omega
        have gi2 : (1 : Int) ≤ 15 := by omega
        go_wp2_with fail
        refine (Fp.within_any a1 0 5 (by omega) (by omega) (by omega) _).mono ?_; rintro e W5 ⟨rfl, rfl⟩
      case' inr =>
        go_wp2_with fail
        refine (Fp.within_any y 1 15 (by omega) (by omega) (by omega) _).mono ?_; rintro e W5 ⟨rfl, rfl⟩
        obtain ⟨gi1, gi2⟩ := hi _ (Or.inr rfl)
        clear hx
        generalize Fp.withinI y 1 15 = i at *
        go_wp2_with fail
        refine (Fp.within_any a1 0 5 (by omega) (by omega) (by omega) _).mono ?_; rintro e W5 ⟨rfl, rfl⟩
      all_goals
        clear hi hl
        go_wp2_with fail
        refine (Fp.within_any a2 1 5 (by omega) (by omega) (by omega) _).mono ?_; rintro e W5 ⟨rfl, rfl⟩
        obtain ⟨a, ea⟩ := Int.eq_ofNat_of_zero_le wa.1
        obtain ⟨b, eb⟩ := Int.eq_ofNat_of_zero_le (show 0 ≤ Fp.withinI a2 1 5 by omega)
        rw [ea] at wa
        rw [eb] at wb
        rw [ea, eb]
        clear ea eb
        have wa5 : a ≤ 5 := by omega
        have wb5 : b ≤ 5 := by omega
        have wb1 : 1 ≤ b := by omega
        clear wa wb
        go_wp2_with fail
        refine (co_first hA4 _ gi1 gi2 a b wa5 wb5 wb1 S4).mono ?_; rintro e W5 ⟨rfl, st5, R5, S5⟩
        have c5 := S5.cell
        clear S4 c4 hA4
        go_wp2_with fail
        refine (co_links R5 gi1 gi2 (by omega) S5).mono ?_; rintro e W6 ⟨rfl, st6, R6, S6⟩
        clear S5 c5 R5
        go_wp2_with fail
        go_loopw [15, 16] (fun x y wr => ∃ (a b : Nat) (st : VSt), x = .int .i64 (a : Int) ∧ y = .int .i64 (b : Int) ∧ a ≤ 5 ∧ b ≤ 5 ∧ CRel st _ a b ∧ Std w t L d q st wr) (fun x y _ => (intOf x + intOf y).toNat)
        case atStart => exact ⟨a, b, st6, rfl, rfl, wa5, wb5, R6, S6⟩
        case round =>
          clear R6 S6 wa5 wb5 wb1
          obtain ⟨a, b, st7, rfl, rfl, wa5, wb5, R7, S7⟩ := hrel
          have c7 := S7.cell
          by_cases hp : 0 < a + b
          · have hp1 : (0 : Int) < (a : Int) + (b : Int) := by omega
            go_wp2_with fail
            refine (co_is R7 gi1 gi2 hp S7).mono ?_; rintro e W8 ⟨rfl, st8, R8, S8⟩
            have c8 := S8.cell
            clear S7 R7 c7
            by_cases ha : 0 < a
            · have ha1 : (0 : Int) < (a : Int) := by omega
              go_wp2_with fail
              refine (co_down R8 gi1 gi2 wa5 wb5 (a - 1) b (by omega) wb5 (-1) 0 (by omega) (by omega) hp S8).mono ?_; rintro e W9 ⟨rfl, st9, R9, S9⟩
              clear S8 R8 c8
              go_wp2_with fail
              refine ⟨⟨a - 1, b, st9, by go_num, rfl, by omega, by omega, R9, S9⟩, by simp [intOf]; omega⟩
            · obtain rfl : a = 0 := by omega
              go_wp2_with fail
              refine (co_down R8 gi1 gi2 wa5 wb5 0 (b - 1) (by omega) (by omega) 0 (-1) (by omega) (by omega) hp S8).mono ?_; rintro e W9 ⟨rfl, st9, R9, S9⟩
              clear S8 R8 c8
              go_wp2_with fail
              refine ⟨⟨0, b - 1, st9, rfl, by go_num, by omega, by omega, R9, S9⟩, by simp [intOf]; omega⟩
          · obtain rfl : a = 0 := by omega
            obtain rfl : b = 0 := by omega
            go_wp2_with fail
            refine (co_again R7 gi1 gi2 S7).mono ?_; rintro e W8 ⟨rfl, st8, R8, S8⟩
            have c8 := S8.cell
            clear S7 R7 c7
            go_wp2_with fail
            refine (co_out R8 0 (by omega) gi1 gi2 1 1 S8).mono ?_; rintro e W9 ⟨rfl, st9, R9, S9⟩
            have c9 := S9.cell
            clear S8 R8 c8
            go_wp2_with fail
            refine (co_out R9 16 (by omega) gi1 gi2 1 1 S9).mono ?_; rintro e Wa ⟨rfl, sta, Ra, Sa⟩
            have ca := Sa.cell
            clear S9 R9 c9
            go_wp2_with fail
            refine (co_type Ra gi1 gi2 Sa).mono ?_; rintro e Wb ⟨rfl, stb, Rb, Sb⟩
            have cb := Sb.cell
            clear Sa Ra ca
            go_wp2_with fail
            refine (co_size Rb gi1 gi2 Sb).mono ?_; rintro e Wc ⟨rfl, bc⟩
            clear Sb Rb cb
            go_wp2_with fail
            refine (iruns_any _).mono ?_; rintro e Wd ⟨rfl, td⟩
            go_wp2_with fail
            go_ret
            exact ⟨rfl, bc.trans (td.mono bc.size)⟩
end Go.Proofs.Ytamkkgmflconaaa.St
