/- The walk of cloisterlaw7.KeyKinds. No condition but those written in the statement. -/
import Derived.Test.YtncgppdmfnapiaaKeyRo
namespace Go.Proofs.Ytncgppdmfnapiaa.St
open Go.RowKit
set_option linter.unusedVariables false

def ml : List Int := [1, 1, 1, 8, 1, 12, 1, 4, 1, 16, 1, 8]
def mlA : Array Value := #[.int .i64 1, .int .i64 1, .int .i64 1, .int .i64 8, .int .i64 1, .int .i64 12, .int .i64 1, .int .i64 4, .int .i64 1, .int .i64 16, .int .i64 1, .int .i64 8]
theorem upto12 {p : Nat → Prop} (h : p 0 ∧ p 1 ∧ p 2 ∧ p 3 ∧ p 4 ∧ p 5 ∧ p 6 ∧ p 7 ∧ p 8 ∧ p 9 ∧ p 10 ∧ p 11) : ∀ n, n < 12 → p n := by
  intro n hn
  obtain ⟨h0, h1, h2, h3, h4, h5, h6, h7, h8, h9, h10, h11⟩ := h
  have : n = 0 ∨ n = 1 ∨ n = 2 ∨ n = 3 ∨ n = 4 ∨ n = 5 ∨ n = 6 ∨ n = 7 ∨ n = 8 ∨ n = 9 ∨ n = 10 ∨ n = 11 := by omega
  rcases this with rfl | rfl | rfl | rfl | rfl | rfl | rfl | rfl | rfl | rfl | rfl | rfl <;> assumption
theorem ml_cell (j : Nat) (h : j < 12) : mlA[j]? = some (.int .i64 (ml.getD j 0)) := by
  revert h; revert j; apply upto12; exact ⟨rfl, rfl, rfl, rfl, rfl, rfl, rfl, rfl, rfl, rfl, rfl, rfl⟩
theorem ml_many (j : Nat) (h : j < 12) : manyI ((j : Int) + 1) = ml.getD j 0 := by
  revert h; revert j; apply upto12; exact ⟨by decide, by decide, by decide, by decide, by decide, by decide, by decide, by decide, by decide, by decide, by decide, by decide⟩
theorem ml_pos (j : Nat) (h : j < 12) : 1 ≤ ml.getD j 0 ∧ ml.getD j 0 ≤ 16 := by
  revert h; revert j; apply upto12; exact ⟨by decide, by decide, by decide, by decide, by decide, by decide, by decide, by decide, by decide, by decide, by decide, by decide⟩
/-- The sum of the first ones. -/
def mlS : Nat → Int
  | 0 => 0
  | n + 1 => mlS n + ml.getD n 0
theorem mlS_bounds (n : Nat) (h : n ≤ 12) : 0 ≤ mlS n ∧ mlS n ≤ 16 * n := by
  induction n with
  | zero => exact ⟨by decide, by decide⟩
  | succ n ih =>
    have := ih (by omega)
    have := ml_pos n (by omega)
    rw [mlS]; omega
theorem kind_at (j : Nat) (h : j < 12) (i : Int) (h0 : 0 ≤ i) (h1 : i < ml.getD j 0) : placeI ((j : Int) + 1) i = aheadI ((j : Int) + 1) + i := by
  unfold placeI; rw [ml_many j h, if_neg (by omega)]
theorem kind_out (j : Nat) (h : j < 12) (i : Int) (h0 : i < 0 ∨ ml.getD j 0 ≤ i) : placeI ((j : Int) + 1) i = -1 := by
  unfold placeI; rw [ml_many j h, if_pos (by omega)]
theorem kind_none (k : Int) (h : k < 1 ∨ 12 < k) : placeI k 0 = -1 := by
  unfold placeI manyI
  rw [if_pos]
  right
  rw [if_neg (by omega), if_neg (by omega), if_neg (by omega), if_neg (by omega), if_pos h]
  exact Int.le_refl _

theorem blk_kept {W W' : World} {b : Nat} {o : Obj} (h : blk W b = some o) (t : Below W.heap.size W W') : blk W' b = some o := heap_kept t h

attribute [local irreducible] Int.lt Int.le
set_option maxRecDepth 100000 in
set_option maxHeartbeats 4000000 in
theorem keyKinds_walk (a0 : Int) (a1 : Int) (w : World) (w0 : (Lit.int .i64 a0).wf = true) (w1 : (Lit.int .i64 a1).wf = true) :
    Calls Try.prog 6 #[.int .i64 a0, .int .i64 a1] w fun e w' => e = .returned (.bool true) ∧ Below w.heap.size w w' := by
  clear w0 w1
  have wa := Fp.within_bounds a0 1 12 (by omega)
  have wb := Fp.within_bounds a1 0 99 (by omega)
  go_enter Try.func6, Try.ntmps6
  go_wp2_with fail
  have u1 : Below w.heap.size w (w.alloc (.cells mlA 3)) := (Below.refl _ _).alloc (Nat.le_refl _) _
  have k1 : blk (w.alloc (.cells mlA 3)) w.heap.size = some (.cells mlA 3 (0, 0)) := blk_alloc_at _ _ _ rfl
  change Calls _ _ _ (w.alloc (.cells mlA 3)) _
  generalize w.alloc (.cells mlA 3) = W1 at *
  obtain ⟨B, hB⟩ : ∃ B, B = w.heap.size := ⟨_, rfl⟩
  rw [← hB] at k1
  simp only [← hB]
  refine (Fp.within_any a0 1 12 (by omega) (by omega) (by omega) _).mono ?_; rintro e W2 ⟨rfl, rfl⟩
  clear hB
  obtain ⟨j, hj⟩ : ∃ j : Nat, Fp.withinI a0 1 12 = (j : Int) + 1 := ⟨(Fp.withinI a0 1 12 - 1).toNat, by omega⟩
  rw [hj] at wa
  rw [hj]
  have j12 : j < 12 := by omega
  obtain ⟨M, hM⟩ : ∃ M, M = ml.getD j 0 := ⟨_, rfl⟩
  have hM1 := ml_pos j j12
  have hcell := ml_cell j j12
  have hin := kind_at j j12
  have hout := kind_out j j12
  rw [← hM] at hM1 hcell hin hout
  have hF := ahead_range (k := (j : Int) + 1) (by omega) (by omega)
  generalize aheadI ((j : Int) + 1) = F at *
  have Hin := Lib.hid hin
  have Hout := Lib.hid hout
  have Hcell := Lib.hid hcell
  clear hin hout hcell hM hj
  have cellOf : ∀ W, blk W B = some (.cells mlA 3 (0, 0)) → W.cell? ⟨B, j, none⟩ = some (.int .i64 M) := fun W h => (cell_of_row W B j _ _ _ h).trans Hcell.out
  have CO := Lib.hid cellOf
  clear cellOf
  obtain ⟨Z, hZ⟩ : ∃ Z, Z = (.cells mlA 3 (0, 0) : Obj) := ⟨_, rfl⟩
  rw [← hZ] at k1
  have HZ := Lib.hid hZ
  clear hZ
  go_wp2_with fail
  refine (place_row ((j : Int) + 1) 0 (F + 0) (Hin.out 0 (by omega) (by omega)) _).mono ?_; rintro e W2 ⟨rfl, t2⟩
  rw [Int.add_zero]
  have k2 := blk_kept k1 t2
  have u2 := u1.trans (t2.mono u1.size)
  clear k1 u1 t2
  go_wp2_with fail
  go_loopw [8] (fun k wr => ∃ i : Nat, (i : Int) ≤ M ∧ k = .int .i64 (i : Int) ∧ blk wr B = some Z ∧ Below w.heap.size w wr) (fun k _ => 16 - (intOf k).toNat)
  case atStart => exact ⟨0, by omega, rfl, k2, u2⟩
  case round =>
    clear k2 u2
    obtain ⟨i, i1, rfl, k3, u3⟩ := hrel
    have c3 := CO.out wr (by rw [← HZ.out]; exact k3)
    have i0 : (0 : Int) ≤ (i : Int) := by omega
    have j0 : (0 : Int) ≤ (j : Int) := by omega
    have j1 : (j : Int) < 12 := by omega
    by_cases hlt : (i : Int) < M
    · go_wp2_with fail
      refine (place_row ((j : Int) + 1) i (F + i) (Hin.out i (by omega) hlt) _).mono ?_; rintro e W4 ⟨rfl, t4⟩
      have k4 := blk_kept k3 t4
      have u4 := u3.trans (t4.mono u3.size)
      clear k3 u3 t4 c3
      go_wp2_with fail
      exact ⟨⟨i + 1, by omega, by go_num, k4, u4⟩, by simp [intOf]; omega⟩
    · go_wp2_with fail
      refine (Fp.within_any a1 0 99 (by omega) (by omega) (by omega) _).mono ?_; rintro e W5 ⟨rfl, rfl⟩
      generalize Fp.withinI a1 0 99 = g at *
      clear c3
      go_wp2_with fail
      go_loopw [10, 42] (fun s k wr => ∃ n : Nat, n ≤ 12 ∧ k = .int .i64 (n : Int) ∧ s = .int .i64 (mlS n) ∧ blk wr B = some Z ∧ Below w.heap.size w wr) (fun _ k _ => 12 - (intOf k).toNat)
      case atStart => exact ⟨0, by omega, rfl, rfl, k3, u3⟩
      case round =>
        clear k3 u3
        obtain ⟨n, n1, rfl, rfl, k5, u5⟩ := hrel
        have hb := mlS_bounds n n1
        by_cases hn : n < 12
        · have l1 : (n : Int) < 12 := by omega
          have l0 : (0 : Int) ≤ (n : Int) := by omega
          have hp := ml_pos n hn
          have c5 : wr.cell? ⟨B, n, none⟩ = some (.int .i64 (ml.getD n 0)) := (cell_of_row wr B n _ _ _ (by rw [← HZ.out]; exact k5)).trans (ml_cell n hn)
          have hs : mlS (n + 1) = mlS n + ml.getD n 0 := rfl
          have Hs := Lib.hid hs
          clear hs
          generalize ml.getD n 0 = Q at *
          go_wp2_with fail
          exact ⟨⟨n + 1, by omega, by go_num, by rw [Hs.out], k5, u5⟩, by simp [intOf]; omega⟩
        · obtain rfl : n = 12 := by omega
          have e55 : mlS 12 = 55 := by decide
          rw [e55]
          have c5 := CO.out wr (by rw [← HZ.out]; exact k5)
          clear hb e55
          go_wp2_with fail
          refine (place_row ((j : Int) + 1) (M + g) (-1) (Hout.out _ (by omega)) _).mono ?_; rintro e W6 ⟨rfl, t6⟩
          have u6 := u5.trans (t6.mono u5.size)
          clear t6 u5 c5 k5
          go_wp2_with fail
          refine (place_row ((j : Int) + 1) (-1 - g) (-1) (Hout.out _ (by omega)) _).mono ?_; rintro e W7 ⟨rfl, t7⟩
          have u7 := u6.trans (t7.mono u6.size)
          clear t7 u6
          go_wp2_with fail
          refine (place_row (13 + g) 0 (-1) (kind_none _ (by omega)) _).mono ?_; rintro e W8 ⟨rfl, t8⟩
          have u8 := u7.trans (t8.mono u7.size)
          clear t8 u7
          go_wp2_with fail
          refine (place_row (-g) 0 (-1) (kind_none _ (by omega)) _).mono ?_; rintro e W9 ⟨rfl, t9⟩
          have u9 := u8.trans (t9.mono u8.size)
          clear t9 u8
          go_wp2_with fail
          refine (all_any _).mono ?_; rintro e Wa ⟨rfl, rfl⟩
          go_wp2_with fail
          refine (kruns_any _).mono ?_; rintro e Wd ⟨rfl, td⟩
          go_wp2_with fail
          go_ret
          exact ⟨rfl, u9.trans (td.mono u9.size)⟩
end Go.Proofs.Ytncgppdmfnapiaa.St
