/- What share asks of floats: sums, halves and quotients of what isn't a NaN are none, and the operation draws nothing; a cleaned weight is a number above nought. No condition but those written in each statement. -/
import Derived.Test.YtdpgpnjjonhdhaaFpOrd
import Derived.Test.YtdpgpnjjonhdhaaFpHalf
import Derived.Test.YtdpgpnjjonhdhaaFpRuns
namespace Go.Proofs.Ytdpgpnjjonhdhaa.Fp
open Go.RowKit Ieee
set_option linter.unusedVariables false

/-- What was used: no NaN. -/
def uOk (u : Nat) : Prop := u < 18446744073709551616 ∧ nanN u = false
/-- A weight: a number, not nought, not infinite, not below nought. -/
def wOk (w : Nat) : Prop := 0 < w ∧ w < 9218868437227405312

theorem word_uOk (s : Bool) {r : Nat} (h : r ≤ 9218868437227405312) : uOk (double.word s r) := ⟨word_lt s h, word_ne_nan s h⟩

theorem add_inf_fin {x y : Nat} (hx : x % 9223372036854775808 = 9218868437227405312) (hy : y % 9223372036854775808 < 9218868437227405312) : arithN .add x y = double.word (negW x) 9218868437227405312 := by
  have e : floatBits .add .f64 x y = some (double.word (negW x) 9218868437227405312) := by
    show double.add x y = _
    unfold Format.add
    rw [read_inf hx, read_fin hy]; exact congrArg some (write_inf _)
  rw [arith_some e, clean_word _ (by omega)]
theorem wordV_uOk (z : Bool) (v : Int) : uOk (wordV z v) := by
  unfold wordV
  split
  · exact word_uOk _ (by omega)
  · exact word_uOk _ (rungOf_le _ _)

def more (u : Nat) : Nat := opN 1 u 4607182418800017408
def less (u : Nat) : Nat := opN 3 u 4602678819172646912
def quo (u w : Nat) : Nat := opN 4 u w
theorem more_ok {u : Nat} (h : uOk u) : uOk (more u) := by
  rcases nan_cases u with c | c | c
  · rw [h.2] at c; cases c
  · show uOk (arithN .add u 4607182418800017408)
    rw [add_inf_fin c (by decide)]; exact word_uOk _ (by omega)
  · show uOk (arithN .add u 4607182418800017408)
    have e : floatBits .add .f64 u 4607182418800017408 = _ := add_fin c (by decide)
    rw [arith_some e, wordV_clean]; exact wordV_uOk _ _
theorem less_ok {u : Nat} (h : uOk u) : uOk (less u) := by
  rcases nan_cases u with c | c | c
  · rw [h.2] at c; cases c
  · show uOk (arithN .mul u 4602678819172646912)
    rw [mul_inf_left c (by decide) (by decide)]; exact word_uOk _ (by omega)
  · show uOk (arithN .mul u 4602678819172646912)
    obtain ⟨r, h1, h2⟩ := mul_fin_word c (y := 4602678819172646912) (by decide)
    rw [h2]; exact word_uOk _ h1
theorem quo_ok {u w : Nat} (h : uOk u) (k : wOk w) : uOk (quo u w) := by
  obtain ⟨k1, k2⟩ := k
  have e : w % 9223372036854775808 = w := Nat.mod_eq_of_lt (by omega)
  rcases nan_cases u with c | c | c
  · rw [h.2] at c; cases c
  · show uOk (arithN .quo u w)
    rw [div_inf_fin c (by omega)]; exact word_uOk _ (by omega)
  · show uOk (arithN .quo u w)
    obtain ⟨r, h1, h2⟩ := div_fin_word c (y := w) (by omega) (by omega)
    rw [h2]; exact word_uOk _ h1

/-- An operation whose answer is no NaN draws nothing. -/
theorem op_still (op : Int) (q : BinOp) (hq : q = .add ∧ op = 1 ∨ q = .sub ∧ op = 2 ∨ q = .mul ∧ op = 3 ∨ q = .quo ∧ op = 4) (a b : Nat) (h : nanN (arithN q a b) = false) (w : World) :
    Calls Try.prog 18 #[.int .i64 op, .int .u64 (a : Int), .int .u64 (b : Int)] w fun e w' => e = .returned (.int .u64 (arithN q a b : Nat)) ∧ w = w' := by
  have hf := frombits_call
  have hb := bits_call
  cases hs : floatBits q .f64 a b with
  | none => rw [arith_none hs] at h; exact absurd h (by decide)
  | some r =>
    have hr := floatBits_wf hs
    simp [Lit.wf] at hr
    have hrun := run_float_arith (P := Try.prog) w q 60 _ _ _ _ hs
    rw [arith_some hs]
    clear hs h
    rcases hq with ⟨rfl, rfl⟩ | ⟨rfl, rfl⟩ | ⟨rfl, rfl⟩ | ⟨rfl, rfl⟩
    all_goals
      go_enter Try.func18, Try.ntmps18
      go_wp2_with fail
      refine (clean_any r hr _).mono ?_; rintro e w' ⟨rfl, rfl⟩
      go_wp2_with fail
      go_ret
      exact ⟨rfl, rfl⟩
theorem more_still {u : Nat} (h : uOk u) (w : World) : Calls Try.prog 18 #[.int .i64 1, .int .u64 (u : Int), .int .u64 4607182418800017408] w fun e w' => e = .returned (.int .u64 (more u : Nat)) ∧ w = w' :=
  op_still 1 .add (by simp) u 4607182418800017408 (more_ok h).2 w
theorem less_still {u : Nat} (h : uOk u) (w : World) : Calls Try.prog 18 #[.int .i64 3, .int .u64 (u : Int), .int .u64 4602678819172646912] w fun e w' => e = .returned (.int .u64 (less u : Nat)) ∧ w = w' :=
  op_still 3 .mul (by simp) u 4602678819172646912 (less_ok h).2 w
theorem quo_still {u x : Nat} (h : uOk u) (k : wOk x) (w : World) : Calls Try.prog 18 #[.int .i64 4, .int .u64 (u : Int), .int .u64 (x : Int)] w fun e w' => e = .returned (.int .u64 (quo u x : Nat)) ∧ w = w' :=
  op_still 4 .quo (by simp) u x (quo_ok h k).2 w

theorem op_pick_still (op which : Int) (hq : op = 5 ∧ which = -1 ∨ op = 6 ∧ which = 1) (a b : Nat) (ha : a < 18446744073709551616) (hb : b < 18446744073709551616) (w : World) :
    Calls Try.prog 18 #[.int .i64 op, .int .u64 (a : Int), .int .u64 (b : Int)] w fun e w' => e = .returned (.int .u64 (opN op a b : Nat)) ∧ w = w' := by
  have hf := frombits_call
  have h5 : opN 5 a b = pickN a b (-1) := rfl
  have h6 : opN 6 a b = pickN a b 1 := rfl
  rcases hq with ⟨rfl, rfl⟩ | ⟨rfl, rfl⟩
  all_goals
    first | rw [h5] | rw [h6]
    clear h5 h6
    go_enter Try.func18, Try.ntmps18
    go_wp2_with fail
    refine (pick_any a b _ ha hb _).mono ?_; rintro e w' ⟨rfl, rfl⟩
    go_wp2_with fail
    go_ret
    exact ⟨rfl, rfl⟩

/-- A weight that may be. -/
def sclean (x : Nat) : Nat := if cmpN x 0 = 1 then opN 5 4652218415073722368 (opN 6 4562146422526312448 x) else 4607182418800017408

theorem above_zero {x : Nat} (hx : x < 18446744073709551616) (h : cmpN x 0 = 1) : nanN x = false ∧ 0 < x ∧ x ≤ 9218868437227405312 := by
  cases hn : nanN x
  · rw [cmp_val hn (by decide)] at h
    have hz : valueW 0 = 0 := value_of_zero (by decide)
    rw [hz] at h
    have hv : 0 < valueW x := by
      unfold cmpI at h
      split at h
      · omega
      · split at h
        · assumption
        · cases h
    have hneg : negW x = false := by
      cases q : negW x
      · rfl
      · unfold valueW at hv
        rw [q] at hv
        simp at hv
        omega
    have hw := word_of hx
    rw [hneg, word_d] at hw
    have := not_nan hn
    refine ⟨rfl, ?_, by simp at hw; omega⟩
    rcases Nat.eq_zero_or_pos x with e | e
    · rw [e, hz] at hv; omega
    · exact e
  · rw [cmp_nan_left hn] at h; cases h
theorem negW_small {x : Nat} (h : x < 9223372036854775808) : negW x = false := by
  unfold negW
  rw [Nat.div_eq_of_lt h]; rfl
theorem rank_small {x : Nat} (h : x ≤ 9218868437227405312) : rankN x = x ∧ nanN x = false := by
  have e : x % 9223372036854775808 = x := Nat.mod_eq_of_lt (by omega)
  have hn : nanN x = false := by
    unfold nanN magN
    exact decide_eq_false (by omega)
  refine ⟨?_, hn⟩
  rw [rank_val (by omega) hn, negW_small (by omega), e]
  rfl
theorem max_small {a b : Nat} (ha : a ≤ 9218868437227405312) (hb : b ≤ 9218868437227405312) : opN 6 a b = max a b := by
  obtain ⟨r1, n1⟩ := rank_small ha
  obtain ⟨r2, n2⟩ := rank_small hb
  rw [op6]
  by_cases h : a < b
  · rw [pick_yes n1 n2 (order_gt (by rw [r1, r2]; omega))]; omega
  · rw [pick_no n1 n2 (by
      intro e
      have := (order_pos_iff b a).1 (by rw [e]; decide)
      rw [r1, r2] at this; omega)]; omega
theorem min_small {a b : Nat} (ha : a ≤ 9218868437227405312) (hb : b ≤ 9218868437227405312) : opN 5 a b = min a b := by
  obtain ⟨r1, n1⟩ := rank_small ha
  obtain ⟨r2, n2⟩ := rank_small hb
  rw [op5]
  by_cases h : b < a
  · rw [pick_yes n1 n2 (order_lt (by rw [r1, r2]; omega))]; omega
  · rw [pick_no n1 n2 (by
      intro e
      by_cases c : a = b
      · subst c
        rw [order_refl] at e; cases e
      · rw [order_gt (by rw [r1, r2]; omega)] at e; cases e)]; omega
/-- A cleaned weight is between the bounds. -/
theorem sclean_val {x : Nat} (hx : x < 18446744073709551616) : (cmpN x 0 = 1 ∧ sclean x = min 4652218415073722368 (max 4562146422526312448 x)) ∨ (cmpN x 0 ≠ 1 ∧ sclean x = 4607182418800017408) := by
  unfold sclean
  by_cases h : cmpN x 0 = 1
  · rw [if_pos h]
    obtain ⟨_, h0, h1⟩ := above_zero hx h
    rw [max_small (by decide) h1, min_small (by decide) (by omega)]
    exact .inl ⟨h, rfl⟩
  · rw [if_neg h]; exact .inr ⟨h, rfl⟩
theorem sclean_bounds {x : Nat} (hx : x < 18446744073709551616) : 4562146422526312448 ≤ sclean x ∧ sclean x ≤ 4652218415073722368 := by
  rcases sclean_val hx with ⟨_, e⟩ | ⟨_, e⟩ <;> rw [e] <;> omega
theorem sclean_ok {x : Nat} (hx : x < 18446744073709551616) : wOk (sclean x) := by
  have := sclean_bounds hx
  exact ⟨by omega, by omega⟩
theorem wOk_lt {x : Nat} (h : wOk x) : x < 18446744073709551616 := by have := h.2; omega
end Go.Proofs.Ytdpgpnjjonhdhaa.Fp
