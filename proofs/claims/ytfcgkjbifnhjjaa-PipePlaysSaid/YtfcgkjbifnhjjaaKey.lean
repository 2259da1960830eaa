/- The contracts of package key's numbers: how many objects of a kind there are, how many ahead of a kind, the place of a key. -/
import Derived.Test.YtfcgkjbifnhjjaaUtil
namespace Go.Proofs.Ytfcgkjbifnhjjaa.St
open Go.RowKit
set_option linter.unusedVariables false

/-- How many objects of a kind there are. -/
def manyI (k : Int) : Int := if k = 4 ∨ k = 12 then 8 else if k = 6 then 12 else if k = 8 then 4 else if k = 10 then 16 else if k < 1 ∨ 12 < k then 0 else 1

/-- How many objects stand ahead of a kind. -/
def aheadN : Nat → Int
  | 0 => 0
  | n + 1 => aheadN n + if n = 0 then 0 else manyI n
def aheadI (k : Int) : Int := aheadN k.toNat

/-- The place of a key; -1: there is none. -/
def placeI (k n : Int) : Int := if n < 0 ∨ manyI k ≤ n then -1 else aheadI k + n

theorem many_any (k : Int) (w : World) :
    Calls Try.prog 76 #[.int .i64 k] w fun e w' => e = .returned (.int .i64 (manyI k)) ∧ w = w' := by
  by_cases h1 : k = 4
  · subst h1
    go_enter Try.func76, Try.ntmps76
    go_wp2
    go_ret
    exact ⟨rfl, rfl⟩
  · by_cases h2 : k = 12
    · subst h2
      clear h1
      go_enter Try.func76, Try.ntmps76
      go_wp2
      go_ret
      exact ⟨rfl, rfl⟩
    · by_cases h3 : k = 6
      · subst h3
        clear h1 h2
        go_enter Try.func76, Try.ntmps76
        go_wp2
        go_ret
        exact ⟨rfl, rfl⟩
      · by_cases h4 : k = 8
        · subst h4
          clear h1 h2 h3
          go_enter Try.func76, Try.ntmps76
          go_wp2
          go_ret
          exact ⟨rfl, rfl⟩
        · by_cases h5 : k = 10
          · subst h5
            clear h1 h2 h3 h4
            go_enter Try.func76, Try.ntmps76
            go_wp2
            go_ret
            exact ⟨rfl, rfl⟩
          · have b1 : (k == 4) = false := beq_eq_false_iff_ne.2 h1
            have b2 : (k == 12) = false := beq_eq_false_iff_ne.2 h2
            have b3 : (k == 6) = false := beq_eq_false_iff_ne.2 h3
            have b4 : (k == 8) = false := beq_eq_false_iff_ne.2 h4
            have b5 : (k == 10) = false := beq_eq_false_iff_ne.2 h5
            have hv : ∀ c, (k < 1 ∨ 12 < k → c = 0) → (1 ≤ k ∧ k ≤ 12 → c = 1) → c = manyI k := by
              intro c c1 c2
              unfold manyI
              rw [if_neg (by omega), if_neg h3, if_neg h4, if_neg h5]
              by_cases q : k < 1 ∨ 12 < k
              · rw [if_pos q]; exact c1 q
              · rw [if_neg q]; exact c2 (by omega)
            have Hv := Lib.hid hv
            clear h1 h2 h3 h4 h5 hv
            by_cases c1 : k < 1
            · go_enter Try.func76, Try.ntmps76
              go_wp2
              go_ret
              exact ⟨ret_int (Hv.out _ (fun _ => rfl) (fun q => by omega)), rfl⟩
            · by_cases c2 : 12 < k
              · have d1 : decide (k < 1) = false := decide_eq_false c1
                go_enter Try.func76, Try.ntmps76
                go_wp2
                go_ret
                exact ⟨ret_int (Hv.out _ (fun _ => rfl) (fun q => by omega)), rfl⟩
              · have d1 : decide (k < 1) = false := decide_eq_false c1
                have d2 : decide (12 < k) = false := decide_eq_false c2
                go_enter Try.func76, Try.ntmps76
                go_wp2
                go_ret
                exact ⟨ret_int (Hv.out _ (fun q => by omega) (fun _ => rfl)), rfl⟩

theorem aheadN_succ (n : Nat) (h : 1 ≤ n) : aheadN (n + 1) = aheadN n + manyI n := by
  show aheadN n + (if n = 0 then 0 else manyI n) = _
  rw [if_neg (by omega)]

theorem many_bounds (k : Int) : 0 ≤ manyI k ∧ manyI k ≤ 16 := by
  unfold manyI; repeat' split
  all_goals omega

theorem ahead_bounds (n : Nat) (h : n ≤ 13) : 0 ≤ aheadN n ∧ aheadN n ≤ 16 * n := by
  induction n with
  | zero => exact ⟨by decide, by decide⟩
  | succ n ih =>
    have := ih (by omega)
    have hm := many_bounds n
    show 0 ≤ aheadN n + (if n = 0 then 0 else manyI n) ∧ aheadN n + (if n = 0 then 0 else manyI n) ≤ _
    split <;> omega

theorem ahead_any (k : Int) (h1 : 1 ≤ k) (h2 : k ≤ 13) (w : World) :
    Calls Try.prog 75 #[.int .i64 k] w fun e w' => e = .returned (.int .i64 (aheadI k)) ∧ w = w' := by
  obtain ⟨m, rfl⟩ := Int.eq_ofNat_of_zero_le (show 0 ≤ k by omega)
  go_enter Try.func75, Try.ntmps75
  go_wp2
  go_loop [3, 4] (fun s i => ∃ j : Nat, 1 ≤ j ∧ j ≤ m ∧ i = .int .i64 (j : Int) ∧ s = .int .i64 (aheadN j)) (fun _ i => m - (intOf i).toNat)
  case atStart => exact ⟨1, by omega, by omega, rfl, rfl⟩
  case round =>
    obtain ⟨j, j1, j2, rfl, rfl⟩ := hrel
    have hb := ahead_bounds j (by omega)
    have hm := many_bounds j
    by_cases hlt : j < m
    · go_wp2_with (go_at_call 76; refine (many_any _ _).mono ?_; rintro e w' ⟨rfl, rfl⟩)
      go_round
      case rel => exact ⟨j + 1, by omega, by omega, by go_num, by rw [aheadN_succ j j1]⟩
      case measure => simp [intOf]; omega
    · obtain rfl : j = m := by omega
      go_wp2
      go_ret
      exact ⟨rfl, rfl⟩

end Go.Proofs.Ytfcgkjbifnhjjaa.St
