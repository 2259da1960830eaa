/- FpuHalves returns true for any word below 2^64. No other condition. -/
import Derived.Test.YtdkofonpkbjjmaaFpRuns
import Derived.Test.YtdkofonpkbjjmaaFpHalf
import Derived.LoopTactic
namespace Go.Proofs.Ytdkofonpkbjjmaa.Fp
open Go.RowKit
set_option linter.unusedVariables false

theorem op_half (y : Nat) (hy : y < 18446744073709551616) (w : World) :
    Calls Try.prog 12 #[.int .i64 3, .int .u64 (y : Int), .int .u64 4602678819172646912] w fun e w' => e = .returned (.int .u64 (opN 3 y 4602678819172646912 : Nat)) ∧ ∃ n, w.drewN n = w' :=
  op_any 3 y 4602678819172646912 hy (by decide) w

theorem and_word (s : Bool) {r : Nat} (h : r ≤ 9218868437227405312) : bits .and .u64 ((Ieee.double.word s r : Nat) : Int) 9223372036854775808 = ((signW s : Nat) : Int) := by
  have h1 : bits .and .u64 ((Ieee.double.word s r : Nat) : Int) 9223372036854775808 = ((Ieee.double.word s r &&& 9223372036854775808 : Nat) : Int) := u64_and_nat _ 9223372036854775808 (word_lt s h) (by decide)
  rw [h1, sign_of_word s h]
theorem andNot_word (s : Bool) {r : Nat} (h : r ≤ 9218868437227405312) : bits .andNot .u64 ((Ieee.double.word s r : Nat) : Int) 9223372036854775808 = (r : Int) := by
  rw [andNot_sign _ (word_lt s h)]
  have : magN (Ieee.double.word s r) = r := word_mag s (by omega)
  rw [this]

theorem kind_word_zero (s : Bool) : kindN (Ieee.double.word s 0) = 3 := kind_of_zero (word_mag s (by decide))
theorem kind_word_sub (s : Bool) {r : Nat} (h0 : 0 < r) (h : r < 4503599627370496) : kindN (Ieee.double.word s r) = 4 := by
  unfold kindN magN kindI
  rw [word_mag s (by omega), if_neg (by omega), if_neg (by omega), if_neg (by omega), if_pos (by omega)]
theorem kind_word_norm (s : Bool) {r : Nat} (h0 : 4503599627370496 ≤ r) (h : r < 9218868437227405312) : kindN (Ieee.double.word s r) = 5 := by
  unfold kindN magN kindI
  rw [word_mag s (by omega), if_neg (by omega), if_neg (by omega), if_neg (by omega), if_neg (by omega)]
theorem order_mags {a b : Nat} (h : a < b) (hb : b ≤ 9218868437227405312) : orderN a b = -1 := by
  have ea : a % 9223372036854775808 = a := Nat.mod_eq_of_lt (by omega)
  have eb : b % 9223372036854775808 = b := Nat.mod_eq_of_lt (by omega)
  have na : nanN a = false := by unfold nanN magN; rw [ea]; exact decide_eq_false (by omega)
  have nb : nanN b = false := by unfold nanN magN; rw [eb]; exact decide_eq_false (by omega)
  have sa : negW a = false := by unfold negW; rw [Nat.div_eq_of_lt (by omega)]; rfl
  have sb : negW b = false := by unfold negW; rw [Nat.div_eq_of_lt (by omega)]; rfl
  apply order_lt
  rw [rank_val (by omega) na, rank_val (by omega) nb, sa, sb, ea, eb]
  simp; omega

theorem half_nan : opN 3 9221120237041090560 4602678819172646912 = 9221120237041090560 := by
  have h : arithN .mul 9221120237041090560 4602678819172646912 = nanWord := arith_nan_left .mul (by simp) nan_nanWord
  exact h
theorem kind_nan_lit : kindN 9221120237041090560 = 1 := by decide
theorem half_inf (s : Bool) : opN 3 (Ieee.double.word s 9218868437227405312) 4602678819172646912 = Ieee.double.word s 9218868437227405312 := by
  have h := mul_inf_left (x := Ieee.double.word s 9218868437227405312) (y := 4602678819172646912) (word_mag _ (by omega)) (by decide) (by decide)
  rw [word_neg _ (by omega)] at h
  have k2 : negW 4602678819172646912 = false := by decide
  rw [k2, Bool.xor_false] at h
  exact h

attribute [local irreducible] Int.lt Int.le cleanN opN kindN orderN cmpN Ieee.Format.word signW halfR Rem

/-- What stays: a NaN, or an infinity. -/
theorem halves_stay (x y S : Nat) (k : Int) (hx : x < 18446744073709551616) (hy : y < 18446744073709551616) (hc : cleanN x = y) (hS : bits .and .u64 (y : Int) 9223372036854775808 = (S : Int))
    (hk : kindN y = k) (h12 : k = 1 ∨ k = 2) (ho : opN 3 y 4602678819172646912 = y) (w : World) :
    Calls Try.prog 6 #[.int .u64 (x : Int)] w fun e w' => e = .returned (.bool true) ∧ ∃ n, w.drewN n = w' := by
  rcases h12 with rfl | rfl
  all_goals
    go_enter Try.func6, Try.ntmps6
    go_wp2_with fail
    refine (clean_any _ hx _).mono ?_; rintro e w' ⟨rfl, rfl⟩
    go_wp2_with fail
    go_loopw [3, 5, 6] (fun yv sb i wr => yv = .int .u64 (y : Int) ∧ i = .int .i64 0 ∧ wr = w) (fun _ _ i _ => 2200 - (intOf i).toNat)
    case atStart => exact ⟨rfl, rfl, rfl⟩
    case round =>
      obtain ⟨rfl, rfl, rfl⟩ := hrel
      go_wp2_with (first | (go_at_call 12; refine (op_half _ hy _).mono ?_; rintro e w' ⟨rfl, n, rfl⟩) | (go_at_call 15; refine (kind_any _ hy _).mono ?_; rintro e w' ⟨rfl, rfl⟩) | (go_at_call 3; refine (runs_any _).mono ?_; rintro e w' ⟨rfl, n, rfl⟩))
      go_ret
      exact ⟨rfl, _, rfl⟩

theorem halves_go (x : Nat) (s : Bool) (r0 : Nat) (hx : x < 18446744073709551616) (hr0 : r0 < 9218868437227405312) (hc : cleanN x = Ieee.double.word s r0) (w : World) :
    Calls Try.prog 6 #[.int .u64 (x : Int)] w fun e w' => e = .returned (.bool true) ∧ ∃ n, w.drewN n = w' := by
  have hrem := rem_start r0 hr0
  have hS := and_word s (r := r0) (by omega)
  go_enter Try.func6, Try.ntmps6
  go_wp2_with fail
  refine (clean_any _ hx _).mono ?_; rintro e w' ⟨rfl, rfl⟩
  go_wp2_with fail
  clear hc hS
  go_loopw [3, 5, 6] (fun yv sb i wr => ∃ (r k m : Nat) (b : Bool), yv = .int .u64 ((Ieee.double.word s r : Nat) : Int) ∧ sb = .bool b ∧ i = .int .i64 (k : Int) ∧ r < 9218868437227405312 ∧ Rem r m ∧ k + m ≤ 2099 ∧ (r = 0 → k = 0 ∨ b = true) ∧ ∃ n, w.drewN n = wr) (fun _ _ i _ => 2200 - (intOf i).toNat)
  case atStart => exact ⟨r0, 0, 2099, false, rfl, rfl, rfl, hr0, hrem, by omega, fun _ => Or.inl rfl, 0, rfl⟩
  case round =>
    clear hrem hr0 hx
    obtain ⟨r, k, m, b, rfl, rfl, rfl, hr, hrem, hkm, hz, n0, rfl⟩ := hrel
    have hl : (k : Int) < 2200 := by omega
    have hy := word_lt s (r := r) (by omega)
    have ho := half_word s r hr
    have hh := half_le (r := r)
    have hzl := word_lt s (r := halfR r) (by omega)
    by_cases h0 : r = 0
    · subst h0
      have hk := kind_word_zero s
      rw [halfR_zero] at ho
      have hw := word_zero s
      rw [hw] at ho hk hy
      have Hz := hz rfl
      clear hz hzl hrem hkm hh
      have hro : (0 : Nat) < 18446744073709551616 := by decide
      have hrr := hro
      rcases Hz with rfl | rfl
      · go_wp2_with (first | (go_at_call 12; refine (op_half _ hy _).mono ?_; rintro e w' ⟨rfl, n, rfl⟩) | (go_at_call 15; refine (kind_any _ hy _).mono ?_; rintro e w' ⟨rfl, rfl⟩) | (go_at_call 14; refine (order_any _ _ hro hrr _).mono ?_; rintro e w' ⟨rfl, rfl⟩) | (go_at_call 3; refine (runs_any _).mono ?_; rintro e w' ⟨rfl, n, rfl⟩))
        go_ret
        exact ⟨rfl, _, rfl⟩
      · by_cases hk0 : k = 0
        · subst hk0
          go_wp2_with (first | (go_at_call 12; refine (op_half _ hy _).mono ?_; rintro e w' ⟨rfl, n, rfl⟩) | (go_at_call 15; refine (kind_any _ hy _).mono ?_; rintro e w' ⟨rfl, rfl⟩) | (go_at_call 14; refine (order_any _ _ hro hrr _).mono ?_; rintro e w' ⟨rfl, rfl⟩) | (go_at_call 3; refine (runs_any _).mono ?_; rintro e w' ⟨rfl, n, rfl⟩))
          go_ret
          exact ⟨rfl, _, rfl⟩
        · have hki : ((k : Int) == 0) = false := beq_eq_false_iff_ne.2 (by omega)
          go_wp2_with (first | (go_at_call 12; refine (op_half _ hy _).mono ?_; rintro e w' ⟨rfl, n, rfl⟩) | (go_at_call 15; refine (kind_any _ hy _).mono ?_; rintro e w' ⟨rfl, rfl⟩) | (go_at_call 14; refine (order_any _ _ hro hrr _).mono ?_; rintro e w' ⟨rfl, rfl⟩) | (go_at_call 3; refine (runs_any _).mono ?_; rintro e w' ⟨rfl, n, rfl⟩))
          go_ret
          exact ⟨rfl, _, rfl⟩
    · have hlt := halfR_lt (r := r) (by omega)
      have hord := order_mags hlt (by omega)
      have hrem2 := rem_step (by omega) hrem
      have a1 := andNot_word s (r := r) (by omega)
      have a2 := andNot_word s (r := halfR r) (by omega)
      have a3 := and_word s (r := halfR r) (by omega)
      have hro : halfR r < 18446744073709551616 := by omega
      have hrr : r < 18446744073709551616 := by omega
      have hz1 : halfR r = 0 → k + 1 = 0 ∨ r < 4503599627370496 := fun h => Or.inr (by have := halfR_zero_of h; omega)
      have Hrem := Lib.hid hrem2
      have Hz := Lib.hid hz1
      clear hrem hz hrem2 hz1
      by_cases h1 : r < 4503599627370496
      · have hk := kind_word_sub s (r := r) (by omega) h1
        go_wp2_with (first | (go_at_call 12; refine (op_half _ hy _).mono ?_; rintro e w' ⟨rfl, n, rfl⟩) | (go_at_call 15; refine (kind_any _ hy _).mono ?_; rintro e w' ⟨rfl, rfl⟩) | (go_at_call 14; refine (order_any _ _ hro hrr _).mono ?_; rintro e w' ⟨rfl, rfl⟩) | (go_at_call 3; refine (runs_any _).mono ?_; rintro e w' ⟨rfl, n, rfl⟩))
        go_roundw
        case rel => exact ⟨halfR r, k + 1, m - 1, true, rfl, rfl, by go_num, by omega, Hrem.out.2, by have := Hrem.out.1; omega, fun _ => Or.inr rfl, _, rfl⟩
        case measure => simp [intOf]; omega
      · have hk := kind_word_norm s (r := r) (by omega) hr
        go_wp2_with (first | (go_at_call 12; refine (op_half _ hy _).mono ?_; rintro e w' ⟨rfl, n, rfl⟩) | (go_at_call 15; refine (kind_any _ hy _).mono ?_; rintro e w' ⟨rfl, rfl⟩) | (go_at_call 14; refine (order_any _ _ hro hrr _).mono ?_; rintro e w' ⟨rfl, rfl⟩) | (go_at_call 3; refine (runs_any _).mono ?_; rintro e w' ⟨rfl, n, rfl⟩))
        go_roundw
        case rel => exact ⟨halfR r, k + 1, m - 1, b, rfl, rfl, by go_num, by omega, Hrem.out.2, by have := Hrem.out.1; omega, fun h => by rcases Hz.out h with h | h <;> omega, _, rfl⟩
        case measure => simp [intOf]; omega

theorem halves_any (x : Nat) (hx : x < 18446744073709551616) (w : World) :
    Calls Try.prog 6 #[.int .u64 (x : Int)] w fun e w' => e = .returned (.bool true) ∧ ∃ n, w.drewN n = w' := by
  rcases nan_cases x with c | c | c
  · exact halves_stay x 9221120237041090560 0 1 hx (by decide) (clean_nan c) (by decide) kind_nan_lit (Or.inl rfl) half_nan w
  · have hn := nan_of_inf c
    have e := word_of hx
    rw [c] at e
    have hy : Ieee.double.word (negW x) 9218868437227405312 < 18446744073709551616 := word_lt _ (by omega)
    refine halves_stay x (Ieee.double.word (negW x) 9218868437227405312) _ 2 hx hy (by rw [clean_id hn, e]) (and_word _ (by omega)) (kind_of_inf (word_mag _ (by omega))) (Or.inr rfl) (half_inf _) w
  · exact halves_go x (negW x) (x % 9223372036854775808) hx c (by rw [clean_id (nan_of_fin c), word_of hx]) w

end Go.Proofs.Ytdkofonpkbjjmaa.Fp
