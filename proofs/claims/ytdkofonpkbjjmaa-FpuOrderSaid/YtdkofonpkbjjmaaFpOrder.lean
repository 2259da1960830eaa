/- FpuOrder returns true for any three words below 2^64: the cases joined. No other condition. -/
import Derived.Test.YtdkofonpkbjjmaaFpOrderA
import Derived.Test.YtdkofonpkbjjmaaFpOrderB
import Derived.Test.YtdkofonpkbjjmaaFpOrd
namespace Go.Proofs.Ytdkofonpkbjjmaa.Fp
open Go.RowKit

theorem nat_ne {a b : Nat} (h : a ≠ b) : ((a : Int) == (b : Int)) = false := beq_eq_false_iff_ne.2 (by omega)
theorem nan_ne {b : Nat} (hb64 : b < 18446744073709551616) (hb : nanN b = false) : ((9221120237041090560 : Int) == (b : Int)) = false := by
  refine beq_eq_false_iff_ne.2 ?_
  have h := not_nan hb
  intro e
  have : b = 9221120237041090560 := by omega
  subst this
  omega
theorem ne_nan {b : Nat} (hb64 : b < 18446744073709551616) (hb : nanN b = false) : ((b : Int) == (9221120237041090560 : Int)) = false := by
  have := nan_ne hb64 hb
  rw [beq_eq_false_iff_ne] at this ⊢
  exact fun e => this e.symm

theorem not_pos {a b c : Nat} (h : rankN a ≤ rankN b) (k : rankN b ≤ rankN c) : ¬ 0 < orderN a c := by
  intro q
  have := (order_pos_iff a c).1 q
  omega

theorem ord_any (a b c : Nat) (ha : a < 18446744073709551616) (hb : b < 18446744073709551616) (hc : c < 18446744073709551616) (w : World) :
    Calls Try.prog 5 #[.int .u64 (a : Int), .int .u64 (b : Int), .int .u64 (c : Int)] w fun e w' => e = .returned (.bool true) ∧ ∃ n, w.drewN n = w' := by
  have haa := order_refl a
  rcases Int.lt_trichotomy (rankN a) (rankN b) with hr | hr | hr
  · -- a ahead of b
    have na : nanN a = false := by
      cases h : nanN a
      · rfl
      · exfalso
        cases h2 : nanN b
        · have := rank_below_nan hb h h2; omega
        · rw [rank_nan h, rank_nan h2] at hr; omega
    have hab := order_lt hr
    have hba := order_gt hr
    have go : ∀ (P : Prop), ((decide (orderN b c ≤ 0) = true) → (decide (0 < orderN a c) = false) → (decide (0 ≤ orderN a c) = false) → P) → (decide (orderN b c ≤ 0) = false → P) → P := by
      intro P h1 h2
      by_cases hy : orderN b c ≤ 0
      · have k1 := (order_le_iff b c).1 hy
        have k2 : ¬ 0 < orderN a c := by intro q; have := (order_pos_iff a c).1 q; omega
        have k3 : ¬ 0 ≤ orderN a c := by intro q; have := (order_nonneg_iff a c).1 q; omega
        exact h1 (decide_eq_true hy) (decide_eq_false k2) (decide_eq_false k3)
      · exact h2 (decide_eq_false hy)
    cases nb : nanN b
    · -- neither is a NaN
      have hne : a ≠ b := by intro e; subst e; omega
      have m1 : opN 5 a b = a := by rw [op5, pick_no na nb (by rw [hba]; decide)]
      have m2 : opN 6 a b = b := by rw [op6, pick_yes na nb hba]
      by_cases za : a % 9223372036854775808 = 0
      · by_cases zb : b % 9223372036854775808 = 0
        · refine go _ (fun y1 y2 y3 => ?_) (fun y1 => ?_)
          · exact ord_mle_ZZ a b c _ _ ha hb hc haa rfl rfl y1 y2 y3 hab hba (kind_of_zero za) (kind_of_zero zb) (clean_id na) (clean_id nb) (nat_ne hne) (nat_ne hne.symm) (cmp_zeros za zb) m1 m2 w
          · exact ord_mgt_ZZ a b c _ _ ha hb hc haa rfl rfl y1 hab hba (kind_of_zero za) (kind_of_zero zb) (clean_id na) (clean_id nb) (nat_ne hne) (nat_ne hne.symm) (cmp_zeros za zb) m1 m2 w
        · refine go _ (fun y1 y2 y3 => ?_) (fun y1 => ?_)
          · exact ord_mle_Zn a b c _ _ ha hb hc haa rfl rfl y1 y2 y3 hab hba (kind_of_zero za) (kind_not_nan nb) (kind_not_zero zb) (clean_id na) (clean_id nb) (nat_ne hne) (nat_ne hne.symm) (cmp_lt ha hb na nb (fun q => zb q.2) hr) m1 m2 w
          · exact ord_mgt_Zn a b c _ _ ha hb hc haa rfl rfl y1 hab hba (kind_of_zero za) (kind_not_nan nb) (kind_not_zero zb) (clean_id na) (clean_id nb) (nat_ne hne) (nat_ne hne.symm) (cmp_lt ha hb na nb (fun q => zb q.2) hr) m1 m2 w
      · refine go _ (fun y1 y2 y3 => ?_) (fun y1 => ?_)
        · exact ord_mle_n a b c _ _ ha hb hc haa rfl rfl y1 y2 y3 hab hba (kind_not_nan na) (kind_not_zero za) (kind_not_nan nb) (clean_id na) (clean_id nb) (nat_ne hne) (nat_ne hne.symm) (cmp_lt ha hb na nb (fun q => za q.1) hr) m1 m2 w
        · exact ord_mgt_n a b c _ _ ha hb hc haa rfl rfl y1 hab hba (kind_not_nan na) (kind_not_zero za) (kind_not_nan nb) (clean_id na) (clean_id nb) (nat_ne hne) (nat_ne hne.symm) (cmp_lt ha hb na nb (fun q => za q.1) hr) m1 m2 w
    · have m1 : opN 5 a b = a := by rw [op5, pick_nan_right _ na nb, clean_id na]
      have m2 : opN 6 a b = a := by rw [op6, pick_nan_right _ na nb, clean_id na]
      have m3 : opN 5 b a = a := by rw [op5, pick_nan_left _ nb, clean_id na]
      have m4 : opN 6 b a = a := by rw [op6, pick_nan_left _ nb, clean_id na]
      by_cases za : a % 9223372036854775808 = 0
      · refine go _ (fun y1 y2 y3 => ?_) (fun y1 => ?_)
        · exact ord_mle_zN a b c _ _ ha hb hc haa rfl rfl y1 y2 y3 hab hba (kind_of_nan nb) (kind_of_zero za) (clean_id na) (clean_nan nb) (ne_nan ha na) (cmp_nan_right nb) m1 m2 m3 m4 w
        · exact ord_mgt_zN a b c _ _ ha hb hc haa rfl rfl y1 hab hba (kind_of_nan nb) (kind_of_zero za) (clean_id na) (clean_nan nb) (ne_nan ha na) (cmp_nan_right nb) m1 m2 m3 m4 w
      · refine go _ (fun y1 y2 y3 => ?_) (fun y1 => ?_)
        · exact ord_mle_nN a b c _ _ ha hb hc haa rfl rfl y1 y2 y3 hab hba (kind_of_nan nb) (kind_not_nan na) (kind_not_zero za) (clean_id na) (clean_nan nb) (ne_nan ha na) (cmp_nan_right nb) m1 m2 m3 m4 w
        · exact ord_mgt_nN a b c _ _ ha hb hc haa rfl rfl y1 hab hba (kind_of_nan nb) (kind_not_nan na) (kind_not_zero za) (clean_id na) (clean_nan nb) (ne_nan ha na) (cmp_nan_right nb) m1 m2 m3 m4 w
  · -- of one rank
    have hab := order_eq hr
    have hba := order_eq hr.symm
    cases na : nanN a
    · have nb : nanN b = false := by
        cases h : nanN b
        · rfl
        · exfalso; have := rank_below_nan ha h na; omega
      obtain rfl := rank_inj ha hb na nb hr
      have m1 : opN 5 a a = a := by rw [op5, pick_no na nb (by rw [hba]; decide)]
      have m2 : opN 6 a a = a := by rw [op6, pick_no na nb (by rw [hba]; decide)]
      by_cases hy : orderN a c ≤ 0
      · have k2 : ¬ 0 < orderN a c := by omega
        by_cases za : a % 9223372036854775808 = 0
        · exact ord_ele_ZZ a c _ 0 ha hc haa rfl (decide_eq_true hy) (decide_eq_false k2) (kind_of_zero za) (clean_id na) (cmp_self na) m1 m2 w
        · exact ord_ele_OO a c _ 0 ha hc haa rfl (decide_eq_true hy) (decide_eq_false k2) (kind_not_nan na) (kind_not_zero za) (clean_id na) (cmp_self na) m1 m2 w
      · by_cases za : a % 9223372036854775808 = 0
        · exact ord_egt_ZZ a c _ 0 ha hc haa rfl (decide_eq_false hy) (kind_of_zero za) (clean_id na) (cmp_self na) m1 m2 w
        · exact ord_egt_OO a c _ 0 ha hc haa rfl (decide_eq_false hy) (kind_not_nan na) (kind_not_zero za) (clean_id na) (cmp_self na) m1 m2 w
    · have nb : nanN b = true := by
        cases h : nanN b
        · exfalso; have := rank_below_nan hb na h; omega
        · rfl
      have m1 : opN 5 a b = 9221120237041090560 := by rw [op5, pick_nan_left _ na, clean_nan nb]
      have m2 : opN 6 a b = 9221120237041090560 := by rw [op6, pick_nan_left _ na, clean_nan nb]
      have m3 : opN 5 b a = 9221120237041090560 := by rw [op5, pick_nan_left _ nb, clean_nan na]
      have m4 : opN 6 b a = 9221120237041090560 := by rw [op6, pick_nan_left _ nb, clean_nan na]
      by_cases hy : orderN b c ≤ 0
      · have k1 := (order_le_iff b c).1 hy
        have k2 := not_pos (Int.le_of_eq hr) k1
        exact ord_ele_NN a b c _ _ ha hb hc haa rfl rfl (decide_eq_true hy) (decide_eq_false k2) hab hba (kind_of_nan na) (clean_nan na) (clean_nan nb) (cmp_nan_left na) m1 m2 m3 m4 w
      · exact ord_egt_NN a b c _ _ ha hb hc haa rfl rfl (decide_eq_false hy) hab hba (kind_of_nan na) (clean_nan na) (clean_nan nb) (cmp_nan_left na) m1 m2 m3 m4 w
  · -- a behind b
    have hab := order_gt hr
    have hba := order_lt hr
    have nb : nanN b = false := by
      cases h : nanN b
      · rfl
      · exfalso
        cases h2 : nanN a
        · have := rank_below_nan ha h h2; omega
        · rw [rank_nan h, rank_nan h2] at hr; omega
    cases na : nanN a
    · have hne : a ≠ b := by intro e; subst e; omega
      have m1 : opN 5 a b = b := by rw [op5, pick_yes na nb hba]
      have m2 : opN 6 a b = a := by rw [op6, pick_no na nb (by rw [hba]; decide)]
      by_cases za : a % 9223372036854775808 = 0
      · by_cases zb : b % 9223372036854775808 = 0
        · exact ord_p_ZZ a b c _ _ ha hb hc haa rfl rfl hab hba (kind_of_zero za) (kind_of_zero zb) (clean_id na) (clean_id nb) (nat_ne hne) (nat_ne hne.symm) (cmp_zeros za zb) m1 m2 w
        · exact ord_p_Zn a b c _ _ ha hb hc haa rfl rfl hab hba (kind_of_zero za) (kind_not_nan nb) (kind_not_zero zb) (clean_id na) (clean_id nb) (nat_ne hne) (nat_ne hne.symm) (cmp_gt ha hb na nb (fun q => zb q.2) hr) m1 m2 w
      · exact ord_p_n a b c _ _ ha hb hc haa rfl rfl hab hba (kind_not_nan na) (kind_not_zero za) (kind_not_nan nb) (clean_id na) (clean_id nb) (nat_ne hne) (nat_ne hne.symm) (cmp_gt ha hb na nb (fun q => za q.1) hr) m1 m2 w
    · have m1 : opN 5 a b = b := by rw [op5, pick_nan_left _ na, clean_id nb]
      have m2 : opN 6 a b = b := by rw [op6, pick_nan_left _ na, clean_id nb]
      have m3 : opN 5 b a = b := by rw [op5, pick_nan_right _ nb na, clean_id nb]
      have m4 : opN 6 b a = b := by rw [op6, pick_nan_right _ nb na, clean_id nb]
      exact ord_p_No a b c _ _ ha hb hc haa rfl rfl hab hba (kind_of_nan na) (clean_nan na) (clean_id nb) (nan_ne hb nb) (cmp_nan_left na) m1 m2 m3 m4 w

end Go.Proofs.Ytdkofonpkbjjmaa.Fp
