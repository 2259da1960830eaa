/- The contracts of the document's own answers All, Place, At. No condition but those written in each statement. -/
import Derived.Test.YtfcgkjbifnhjjaaKeyKi
namespace Go.Proofs.Ytfcgkjbifnhjjaa.St
open Go.RowKit
set_option linter.unusedVariables false

theorem sizes_any (w : World) : Calls Try.prog 73 #[] w fun e w' => ∃ B, e = .returned (.slice (some ⟨B, 0, none⟩) 12 12) ∧ blk w' B = some (.cells mlA 3 (0, 0)) ∧ Below w.heap.size w w' := by
  go_enter Try.func73, Try.ntmps73
  go_wp2_with fail
  go_ret
  exact ⟨w.heap.size, rfl, blk_alloc_at _ _ _ rfl, (Below.refl _ _).alloc (Nat.le_refl _) _⟩

attribute [local irreducible] Int.lt Int.le
set_option maxRecDepth 100000 in
theorem rall_any (w : World) : Calls Try.prog 56 #[] w fun e w' => e = .returned (.int .i64 55) ∧ Below w.heap.size w w' := by
  go_enter Try.func56, Try.ntmps56
  go_wp2_with fail
  refine (sizes_any _).mono ?_; rintro e W1 ⟨B, rfl, k1, u1⟩
  have hc : ∀ j, j < 12 → W1.cell? ⟨B, j, none⟩ = some (.int .i64 (ml.getD j 0)) := fun j hj => (cell_of_row W1 B j _ _ _ k1).trans (ml_cell j hj)
  clear k1
  go_wp2_with fail
  go_loop [1, 6] (fun s k => ∃ n : Nat, n ≤ 12 ∧ k = .int .i64 (n : Int) ∧ s = .int .i64 (mlS n)) (fun _ k => 12 - (intOf k).toNat)
  case atStart => exact ⟨0, by omega, rfl, rfl⟩
  case round =>
    obtain ⟨n, n1, rfl, rfl⟩ := hrel
    have hb := mlS_bounds n n1
    by_cases hn : n < 12
    · have l1 : (n : Int) < 12 := by omega
      have l0 : (0 : Int) ≤ (n : Int) := by omega
      have hp := ml_pos n hn
      have c5 := hc n hn
      have hs : mlS (n + 1) = mlS n + ml.getD n 0 := rfl
      have Hs := Lib.hid hs
      clear hs hc
      generalize ml.getD n 0 = Q at *
      go_wp2_with fail
      exact ⟨⟨n + 1, by omega, by go_num, by rw [Hs.out]⟩, by simp [intOf]; omega⟩
    · obtain rfl : n = 12 := by omega
      have e55 : mlS 12 = 55 := by decide
      rw [e55]
      clear hb e55 hc
      go_wp2_with fail
      go_ret
      exact ⟨rfl, u1⟩

theorem ml_sum (n : Nat) (h : n ≤ 12) : mlS n = aheadI ((n : Int) + 1) := by
  have : n = 0 ∨ n = 1 ∨ n = 2 ∨ n = 3 ∨ n = 4 ∨ n = 5 ∨ n = 6 ∨ n = 7 ∨ n = 8 ∨ n = 9 ∨ n = 10 ∨ n = 11 ∨ n = 12 := by omega
  rcases this with rfl | rfl | rfl | rfl | rfl | rfl | rfl | rfl | rfl | rfl | rfl | rfl | rfl <;> decide
theorem kind_none' (k n : Int) (h : k < 1 ∨ 12 < k) : placeI k n = -1 := by
  unfold placeI
  rw [if_pos]
  by_cases hn : n < 0
  · exact Or.inl hn
  · right
    unfold manyI
    rw [if_neg (by omega), if_neg (by omega), if_neg (by omega), if_neg (by omega), if_pos h]
    omega

set_option maxRecDepth 100000 in
theorem rplace_any (k m : Int) (hk : k ≤ 9223372036854775807) (w : World) : Calls Try.prog 51 #[.agg #[.int .i64 k, .int .i64 m]] w fun e w' => e = .returned (.int .i64 (placeI k m)) ∧ Below w.heap.size w w' := by
  go_enter Try.func51, Try.ntmps51
  go_wp2_with fail
  have k0 : blk (w.alloc (Obj.cells #[Value.int IntKind.i64 k, Value.int IntKind.i64 m] 51)) w.heap.size = some (.cells #[.int .i64 k, .int .i64 m] 51 (0, 0)) := blk_alloc_at _ _ _ rfl
  have u0 : Below w.heap.size w (w.alloc (Obj.cells #[Value.int IntKind.i64 k, Value.int IntKind.i64 m] 51)) := (Below.refl _ _).alloc (Nat.le_refl _) _
  generalize w.alloc (Obj.cells #[Value.int IntKind.i64 k, Value.int IntKind.i64 m] 51) = W0 at *
  obtain ⟨G, hG⟩ : ∃ G, G = w.heap.size := ⟨_, rfl⟩
  rw [← hG] at k0
  simp only [← hG]
  refine (sizes_any _).mono ?_; rintro e W1 ⟨B, rfl, k1, u1⟩
  have k01 := blk_kept k0 u1
  have g0 := cell_of_row W1 G 0 _ _ _ k01
  have g1 := cell_of_row W1 G 1 _ _ _ k01
  simp at g0 g1
  have bel2 := u0.trans (u1.mono u0.size)
  have hc : ∀ j, j < 12 → W1.cell? ⟨B, j, none⟩ = some (.int .i64 (ml.getD j 0)) := fun j hj => (cell_of_row W1 B j _ _ _ k1).trans (ml_cell j hj)
  clear k1 k0 k01 u0 u1 hG
  go_wp2_with fail
  go_loop [3, 8] (fun s i => ∃ n : Nat, n ≤ 12 ∧ i = .int .i64 (n : Int) ∧ s = .int .i64 (mlS n) ∧ (k < 1 ∨ (n : Int) < k)) (fun _ i => 12 - (intOf i).toNat)
  case atStart => exact ⟨0, by omega, rfl, rfl, by omega⟩
  case round =>
    obtain ⟨n, n1, rfl, rfl, hrel⟩ := hrel
    have hb := mlS_bounds n n1
    by_cases hn : n < 12
    · have l1 : (n : Int) < 12 := by omega
      have l0 : (0 : Int) ≤ (n : Int) := by omega
      have hp := ml_pos n hn
      have c5 := hc n hn
      by_cases he : k = (n : Int) + 1
      · have hpl : (m < 0 ∧ placeI k m = -1) ∨ (¬ m < 0 ∧ ml.getD n 0 ≤ m ∧ placeI k m = -1) ∨ (¬ m < 0 ∧ ¬ ml.getD n 0 ≤ m ∧ placeI k m = mlS n + m) := by
          rw [he]
          by_cases a : m < 0
          · exact Or.inl ⟨a, kind_out n hn m (Or.inl a)⟩
          · by_cases b : ml.getD n 0 ≤ m
            · exact Or.inr (Or.inl ⟨a, b, kind_out n hn m (Or.inr b)⟩)
            · exact Or.inr (Or.inr ⟨a, b, by rw [kind_at n hn m (by omega) (by omega), ml_sum n n1]⟩)
        clear hc hrel
        subst he
        generalize ml.getD n 0 = Q at *
        generalize mlS n = T at *
        rcases hpl with ⟨a, hr⟩ | ⟨a, b, hr⟩ | ⟨a, b, hr⟩
        all_goals
          have Hr := Lib.hid hr
          clear hr
          go_wp2_with fail
          go_ret
          exact ⟨by rw [Hr.out]; rfl, bel2⟩
      · have hs : mlS (n + 1) = mlS n + ml.getD n 0 := rfl
        have Hs := Lib.hid hs
        have hrel2 : k < 1 ∨ ((n + 1 : Nat) : Int) < k := by omega
        have n7 : (k == (n : Int) + 1) = false := beq_eq_false_iff_ne.2 he
        clear hs hc hrel
        generalize ml.getD n 0 = Q at *
        go_wp2_with fail
        exact ⟨⟨n + 1, by omega, by go_num, by rw [Hs.out], hrel2⟩, by simp [intOf]; omega⟩
    · obtain rfl : n = 12 := by omega
      have hpl := kind_none' k m (by omega)
      have Hr := Lib.hid hpl
      clear hc hb hpl hrel
      go_wp2_with fail
      go_ret
      exact ⟨by rw [Hr.out]; rfl, bel2⟩

/-- What the document says stands at a place: the same. -/
theorem sum_at (p : Int) (n : Nat) (hn : n < 12) (h0 : 0 ≤ p) (h1 : mlS n ≤ p) : atF (12 - n) (p - mlS n) = if p < mlS n + ml.getD n 0 then some ((n : Int) + 1, p - mlS n) else atF (12 - (n + 1)) (p - mlS (n + 1)) := by
  have hm := ml_many n hn
  by_cases h : p < mlS n + ml.getD n 0
  · rw [if_pos h]
    have := atF_hit (n + 1) (p - mlS n) (by omega) (by omega) (by rw [show ((n + 1 : Nat) : Int) = (n : Int) + 1 by omega, hm]; omega)
    rw [show 13 - (n + 1) = 12 - n by omega] at this
    rw [this]
    congr 1
  · rw [if_neg h]
    have := atF_past (n + 1) (p - mlS n) (by omega) (by omega) (by rw [show ((n + 1 : Nat) : Int) = (n : Int) + 1 by omega, hm]; omega)
    rw [show 13 - (n + 1) = 12 - n by omega, show 13 - (n + 1 + 1) = 12 - (n + 1) by omega, show ((n + 1 : Nat) : Int) = (n : Int) + 1 by omega, hm] at this
    rw [this, mlS]
    congr 1
    omega

set_option maxRecDepth 100000 in
theorem rat_any (p : Int) (hp1 : -9223372036854775808 ≤ p) (hp2 : p ≤ 9223372036854775807) (w : World) : Calls Try.prog 57 #[.int .i64 p] w fun e w' => e = .returned (.tuple #[atV p, .bool (atK p).isSome]) ∧ Below w.heap.size w w' := by
  go_enter Try.func57, Try.ntmps57
  go_wp2_with fail
  have k0 : blk (w.alloc (Obj.cells #[Value.int IntKind.i64 0, Value.int IntKind.i64 0] 51)) w.heap.size = some (.cells #[.int .i64 0, .int .i64 0] 51 (0, 0)) := blk_alloc_at _ _ _ rfl
  have bel0 : Below w.heap.size w (w.alloc (Obj.cells #[Value.int IntKind.i64 0, Value.int IntKind.i64 0] 51)) := (Below.refl _ _).alloc (Nat.le_refl _) _
  generalize w.alloc (Obj.cells #[Value.int IntKind.i64 0, Value.int IntKind.i64 0] 51) = W0 at *
  obtain ⟨G, hG⟩ : ∃ G, G = w.heap.size := ⟨_, rfl⟩
  rw [← hG] at k0
  simp only [← hG]
  have gG : w.heap.size ≤ G := by omega
  refine (sizes_any _).mono ?_; rintro e W1 ⟨B, rfl, k1, u1⟩
  have k01 := blk_kept k0 u1
  have bel2 := bel0.trans (u1.mono bel0.size)
  have hc : ∀ j, j < 12 → W1.cell? ⟨B, j, none⟩ = some (.int .i64 (ml.getD j 0)) := fun j hj => (cell_of_row W1 B j _ _ _ k1).trans (ml_cell j hj)
  have f0 := frozen_blk k01 0
  have f1 := frozen_blk k01 1
  have g0 := cell_of_row W1 G 0 _ _ _ k01
  have g1 := cell_of_row W1 G 1 _ _ _ k01
  simp at g0 g1
  clear k1 k0 bel0 u1 hG
  go_wp2_with fail
  go_loop [4, 9] (fun s i => ∃ n : Nat, n ≤ 12 ∧ i = .int .i64 (n : Int) ∧ s = .int .i64 (mlS n) ∧ (0 ≤ p → mlS n ≤ p ∧ atK p = atF (12 - n) (p - mlS n))) (fun _ i => 12 - (intOf i).toNat)
  case atStart => exact ⟨0, by omega, rfl, rfl, fun h => ⟨h, by unfold atK; rw [if_neg (by omega)]; simp [mlS]⟩⟩
  case round =>
    obtain ⟨n, n1, rfl, rfl, hrel⟩ := hrel
    have hb := mlS_bounds n n1
    by_cases hn : n < 12
    · have l1 : (n : Int) < 12 := by omega
      have l0 : (0 : Int) ≤ (n : Int) := by omega
      have hp := ml_pos n hn
      have c5 := hc n hn
      have hsa := sum_at p n hn
      have hs : mlS (n + 1) = mlS n + ml.getD n 0 := rfl
      clear hc
      have key : (p < mlS n ∧ p < 0) ∨ (mlS n ≤ p ∧ p < mlS n + ml.getD n 0 ∧ atV p = keyV ((n : Int) + 1) (p - mlS n) ∧ (atK p).isSome = true) ∨ (mlS n ≤ p ∧ ¬ p < mlS n + ml.getD n 0 ∧ atK p = atF (12 - (n + 1)) (p - mlS (n + 1))) := by
        by_cases q0 : 0 ≤ p
        · obtain ⟨r1, r2⟩ := hrel q0
          have := hsa q0 r1
          by_cases q1 : p < mlS n + ml.getD n 0
          · rw [if_pos q1] at this
            refine Or.inr (Or.inl ⟨r1, q1, ?_, ?_⟩)
            · unfold atV; rw [r2, this]; rfl
            · rw [r2, this]; rfl
          · rw [if_neg q1] at this
            exact Or.inr (Or.inr ⟨r1, q1, r2.trans this⟩)
        · by_cases q1 : p < mlS n
          · exact Or.inl ⟨q1, by omega⟩
          · omega
      have Hs := Lib.hid hs
      clear hsa hrel hs
      rcases key with ⟨q1, q2⟩ | ⟨q1, q2, q3, q4⟩ | ⟨q1, q2, q3⟩
      case inl =>
        have hnx : 0 ≤ p → mlS (n + 1) ≤ p ∧ atK p = atF (12 - (n + 1)) (p - mlS (n + 1)) := fun h => absurd h (by omega)
        have Hnx := Lib.hid hnx
        clear hnx
        generalize ml.getD n 0 = Q at *
        generalize mlS n = S0 at *
        go_wp2_with fail
        exact ⟨⟨n + 1, by omega, by go_num, by rw [Hs.out], Hnx.out⟩, by simp [intOf]; omega⟩
      case inr.inl =>
        have HV := Lib.hid q3
        have HS := Lib.hid q4
        clear q3 q4
        generalize ml.getD n 0 = Q at *
        generalize mlS n = S0 at *
        go_wp2_with fail
        have s1 := blk_setCell_same k01 0 (Value.int IntKind.i64 ((n : Int) + 1))
        have s2 := blk_setCell_same s1 1 (Value.int IntKind.i64 (p - S0))
        rw [HV.out, HS.out]
        exact bodyPost_key2 (b := G) (c := #[.int .i64 ((n : Int) + 1), .int .i64 (p - S0)]) rfl rfl rfl s2 rfl ⟨rfl, (bel2.setCell gG _).setCell gG _⟩
      case inr.inr =>
        have hnx : 0 ≤ p → mlS (n + 1) ≤ p ∧ atK p = atF (12 - (n + 1)) (p - mlS (n + 1)) := fun h => ⟨by have := Hs.out; omega, q3⟩
        have Hnx := Lib.hid hnx
        clear hnx q3
        generalize ml.getD n 0 = Q at *
        generalize mlS n = S0 at *
        go_wp2_with fail
        exact ⟨⟨n + 1, by omega, by go_num, by rw [Hs.out], Hnx.out⟩, by simp [intOf]; omega⟩
    · obtain rfl : n = 12 := by omega
      have hk : atK p = none := by
        by_cases q0 : 0 ≤ p
        · exact (hrel q0).2
        · unfold atK; rw [if_pos (by omega)]
      have hv : atV p = keyV 0 0 := by unfold atV; rw [hk]; rfl
      have hso : (atK p).isSome = false := by rw [hk]; rfl
      have HV := Lib.hid hv
      have HS := Lib.hid hso
      clear hk hv hso hrel hc hb
      go_wp2_with fail
      have s1 := blk_setCell_same k01 0 (Value.int IntKind.i64 0)
      have s2 := blk_setCell_same s1 1 (Value.int IntKind.i64 0)
      rw [HV.out, HS.out]
      exact bodyPost_key2 (b := G) (c := #[.int .i64 0, .int .i64 0]) rfl rfl rfl s2 rfl ⟨rfl, (bel2.setCell gG _).setCell gG _⟩
end Go.Proofs.Ytfcgkjbifnhjjaa.St
