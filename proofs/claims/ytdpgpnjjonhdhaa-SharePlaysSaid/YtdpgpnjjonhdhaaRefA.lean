/- The contracts of the document's own answer to chapter 1 (cloisterref1), but for Int: each computes the same plain functions as the program (text FpDefs), for every word below 2^64. -/
import Derived.Test.YtdpgpnjjonhdhaaFpRuns
import Derived.Test.YtdpgpnjjonhdhaaFpOrd
namespace Go.Proofs.Ytdpgpnjjonhdhaa.Fp
open Go.RowKit
set_option linter.unusedVariables false

def expN (x : Nat) : Nat := x / 4503599627370496 % 2048
def fracN (x : Nat) : Nat := x % 4503599627370496

theorem exp_lt (x : Nat) : expN x < 2048 := Nat.mod_lt _ (by decide)
theorem frac_lt (x : Nat) : fracN x < 4503599627370496 := Nat.mod_lt _ (by decide)
theorem mag_parts (x : Nat) : magN x = expN x * 4503599627370496 + fracN x := by unfold magN expN fracN; omega

theorem exp_bits (x : Nat) (h : x < 18446744073709551616) : bits .and .u64 ((x : Int) / 4503599627370496) 2047 = ((expN x : Nat) : Int) := by
  have e : ((x : Int) / 4503599627370496) = ((x / 4503599627370496 : Nat) : Int) := by simp
  rw [e]
  have h1 : bits .and .u64 ((x / 4503599627370496 : Nat) : Int) 2047 = ((x / 4503599627370496 &&& 2047 : Nat) : Int) := u64_and_nat _ 2047 (by omega) (by decide)
  rw [h1, nat_mask11]; rfl
theorem frac_bits (x : Nat) (h : x < 18446744073709551616) : bits .and .u64 (x : Int) 4503599627370495 = ((fracN x : Nat) : Int) := by
  have h1 : bits .and .u64 (x : Int) 4503599627370495 = ((x &&& 4503599627370495 : Nat) : Int) := u64_and_nat _ 4503599627370495 h (by decide)
  have e : (4503599627370495 : Nat) = 2 ^ 52 - 1 := by decide
  rw [h1, e, Nat.and_two_pow_sub_one_eq_mod]; rfl

/-- The kind by the two parts. -/
def kindP (E M : Nat) : Int := if E = 2047 ∧ M ≠ 0 then 1 else if E = 2047 then 2 else if E = 0 ∧ M = 0 then 3 else if E = 0 then 4 else 5
theorem kind_parts (x : Nat) : kindN x = kindP (expN x) (fracN x) := by
  have h1 := exp_lt x
  have h2 := frac_lt x
  unfold kindN kindI kindP
  rw [mag_parts]
  generalize expN x = E at *
  generalize fracN x = M at *
  repeat' split
  all_goals first | rfl | (exfalso; omega)

def placeN (x : Nat) : Nat := if nanN x then 18446744073709551615 else if negW x then 18446744073709551615 - x else x + 9223372036854775808

theorem place_cmp {a b : Nat} (ha : a < 18446744073709551616) (hb : b < 18446744073709551616) : cmpI (placeN a) (placeN b) = orderN a b := by
  have key : ∀ x : Nat, x < 18446744073709551616 → (nanN x = true ∧ (placeN x : Int) = 18446744073709551615 ∧ rankN x = 9221120237041090560) ∨ (nanN x = false ∧ (placeN x : Int) = rankN x + 9223372036854775808 ∧ rankN x ≤ 9218868437227405312) := by
    intro x hx
    cases hn : nanN x
    · right
      refine ⟨rfl, ?_, rank_le_inf hx hn⟩
      unfold placeN
      rw [hn, rank_val hx hn]
      cases hs : negW x
      · have : x < 9223372036854775808 := by
          unfold negW at hs; simp at hs; omega
        simp; omega
      · have : 9223372036854775808 ≤ x := by
          unfold negW at hs; simp at hs; omega
        simp; omega
    · left
      refine ⟨rfl, ?_, rank_nan hn⟩
      unfold placeN; rw [hn]; rfl
  unfold orderN cmpI
  rcases key a ha with ⟨_, a1, a2⟩ | ⟨_, a1, a2⟩ <;> rcases key b hb with ⟨_, b1, b2⟩ | ⟨_, b1, b2⟩ <;> rw [a1, b1]
  all_goals
    first
      | (rw [a2, b2]; rfl)
      | (rw [a2, if_neg (by omega), if_pos (by omega), if_neg (by omega), if_pos (by omega)])
      | (rw [b2, if_pos (by omega), if_pos (by omega)])
      | skip
  · rcases Int.lt_trichotomy (rankN a) (rankN b) with h | h | h
    · rw [if_pos (by omega), if_pos h]
    · rw [if_neg (by omega), if_neg (by omega), if_neg (by omega), if_neg (by omega)]
    · rw [if_neg (by omega), if_pos (by omega), if_neg (by omega), if_pos h]

theorem min_ref {a b : Nat} (ha : a < 18446744073709551616) (hb : b < 18446744073709551616) : opN 5 a b = if orderN a b ≤ 0 then cleanN a else cleanN b := by
  rw [op5]
  cases na : nanN a
  · cases nb : nanN b
    · rcases Int.lt_trichotomy (rankN a) (rankN b) with h | h | h
      · rw [order_lt h, if_pos (by decide), pick_no na nb (by rw [order_gt h]; decide), clean_id na]
      · rw [order_eq h, if_pos (by decide), pick_no na nb (by rw [order_eq h.symm]; decide), clean_id na]
      · rw [order_gt h, if_neg (by decide), pick_yes na nb (order_lt h), clean_id nb]
    · rw [pick_nan_right _ na nb, order_lt (rank_below_nan ha nb na), if_pos (by decide)]
  · rw [pick_nan_left _ na]
    cases nb : nanN b
    · rw [order_gt (rank_below_nan hb na nb), if_neg (by decide)]
    · rw [clean_nan na, clean_nan nb]; split <;> rfl
theorem max_ref {a b : Nat} (ha : a < 18446744073709551616) (hb : b < 18446744073709551616) (na : nanN a = false) (nb : nanN b = false) : opN 6 a b = if 0 ≤ orderN a b then a else b := by
  rw [op6]
  rcases Int.lt_trichotomy (rankN a) (rankN b) with h | h | h
  · rw [order_lt h, if_neg (by decide), pick_yes na nb (order_gt h)]
  · rw [order_eq h, if_pos (by decide), pick_no na nb (by rw [order_eq h.symm]; decide)]
  · rw [order_gt h, if_pos (by decide), pick_no na nb (by rw [order_lt h]; decide)]

theorem cmp_ref {a b : Nat} (ha : a < 18446744073709551616) (hb : b < 18446744073709551616) (na : nanN a = false) (nb : nanN b = false) (hz : ¬ (a % 9223372036854775808 = 0 ∧ b % 9223372036854775808 = 0)) : cmpN a b = orderN a b := by
  rcases Int.lt_trichotomy (rankN a) (rankN b) with h | h | h
  · rw [order_lt h, cmp_lt ha hb na nb hz h]
  · have := rank_inj ha hb na nb h
    subst this
    rw [order_refl, cmp_self na]
  · rw [order_gt h, cmp_gt ha hb na nb hz h]

theorem kind_iff_nan (x : Nat) : nanN x = true ↔ kindN x = 1 := by
  have := kind_nan x
  constructor
  · intro h; exact kind_of_nan h
  · intro h; rw [← this, h]; rfl
theorem kind_three {x : Nat} (h : kindN x = 3) : x % 9223372036854775808 = 0 := by
  rcases classes x with c | c | c | c
  · rw [kind_of_nan c] at h; cases h
  · rw [kind_of_inf c] at h; cases h
  · exact c
  · rcases kind_of_fin c.1 c.2 with k | k <;> rw [k] at h <;> cases h

attribute [local irreducible] Int.lt Int.le

theorem rkind_any (x : Nat) (hx : x < 18446744073709551616) (w : World) :
    Calls Try.prog 51 #[.int .u64 (x : Int)] w fun e w' => e = .returned (.int .i64 (kindN x)) ∧ w = w' := by
  have hE := exp_bits x hx
  have hM := frac_bits x hx
  rw [kind_parts]
  generalize expN x = E at *
  generalize fracN x = M at *
  clear hx
  by_cases a : E = 2047
  · by_cases b : M = 0
    · subst a b
      go_enter Try.func51, Try.ntmps51
      go_wp2
      go_ret
      exact ⟨rfl, rfl⟩
    · subst a
      have hb : 0 < M := by omega
      have hb2 : ((M : Int) == 0) = false := beq_eq_false_iff_ne.2 (by omega)
      have hb3 : ((M : Int) != 0) = true := by rw [bne_iff_ne]; omega
      have hf := Lib.hid (show (1 : Int) = kindP 2047 M by simp [kindP, b])
      clear b
      go_enter Try.func51, Try.ntmps51
      go_wp2
      go_ret
      exact ⟨ret_int hf.out, rfl⟩
  · have ha : ((E : Int) == 2047) = false := beq_eq_false_iff_ne.2 (by omega)
    by_cases c : E = 0
    · subst c
      by_cases b : M = 0
      · subst b
        clear a
        go_enter Try.func51, Try.ntmps51
        go_wp2
        go_ret
        exact ⟨rfl, rfl⟩
      · have hb : 0 < M := by omega
        have hb2 : ((M : Int) == 0) = false := beq_eq_false_iff_ne.2 (by omega)
        have hf := Lib.hid (show (4 : Int) = kindP 0 M by simp [kindP, b])
        clear a b
        go_enter Try.func51, Try.ntmps51
        go_wp2
        go_ret
        exact ⟨ret_int hf.out, rfl⟩
    · have hc : ((E : Int) == 0) = false := beq_eq_false_iff_ne.2 (by omega)
      have hf := Lib.hid (show (5 : Int) = kindP E M by simp [kindP, a, c])
      clear a c
      go_enter Try.func51, Try.ntmps51
      go_wp2
      go_ret
      exact ⟨ret_int hf.out, rfl⟩

end Go.Proofs.Ytdpgpnjjonhdhaa.Fp
