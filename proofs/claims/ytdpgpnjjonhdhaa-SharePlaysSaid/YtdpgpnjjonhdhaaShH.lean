/- Halves of what was used: a quotient of a half is the quotient, a power lower. No program here; no condition but those written in each statement. -/
import Derived.Test.YtdpgpnjjonhdhaaShE
namespace Go.Proofs.Ytdpgpnjjonhdhaa.Fp
open Ieee
set_option linter.unusedVariables false

theorem roundE_le (n d : Nat) (h : n < 2 ^ (d + 53)) : roundE n d ≤ 9007199254740992 := by
  unfold roundE
  have h1 : n / 2 ^ d < 9007199254740992 := by
    rw [Nat.div_lt_iff_lt_mul (Nat.two_pow_pos d)]
    rw [Nat.pow_add, pow53, Nat.mul_comm] at h
    exact h
  split <;> omega

theorem min_down (K r : Nat) (h0 : 0 < K) (hK : K ≤ 2000 * 4503599627370496) (hr : r ≤ 9007199254740992) :
    min (K + 4503599627370496 + r) 9218868437227405312 = min (K + r) 9218868437227405312 + 4503599627370496 ∧ min (K + 4503599627370496 + r) 9218868437227405312 < 9218868437227405312 ∧ 0 < min (K + r) 9218868437227405312 := by
  rw [Nat.min_eq_left (by omega), Nat.min_eq_left (by omega)]
  omega

theorem rungOf_down (M : Nat) (p : Int) (h0 : M ≠ 0) (h1 : -900 ≤ p + M.log2) (h2 : p + M.log2 ≤ 900) :
    rungOf M p = rungOf M (p - 1) + 4503599627370496 ∧ rungOf M p < 9218868437227405312 ∧ 0 < rungOf M (p - 1) := by
  unfold rungOf
  have e1 : max (p + (M.log2 : Int) - 52) (-1074) = p + (M.log2 : Int) - 52 := by omega
  have e2 : max (p - 1 + (M.log2 : Int) - 52) (-1074) = p + (M.log2 : Int) - 52 - 1 := by omega
  rw [e1, e2]
  have f1 : (p - (p + (M.log2 : Int) - 52)).toNat = 52 - M.log2 := by omega
  have f2 : (p + (M.log2 : Int) - 52 - p).toNat = M.log2 - 52 := by omega
  have f3 : (p - 1 - (p + (M.log2 : Int) - 52 - 1)).toNat = 52 - M.log2 := by omega
  have f4 : (p + (M.log2 : Int) - 52 - 1 - (p - 1)).toNat = M.log2 - 52 := by omega
  rw [f1, f2, f3, f4]
  have hr : roundE (M * 2 ^ (52 - M.log2)) (M.log2 - 52) ≤ 9007199254740992 := by
    apply roundE_le
    have hl : M < 2 ^ (M.log2 + 1) := Nat.lt_log2_self
    have hm : M * 2 ^ (52 - M.log2) < 2 ^ (M.log2 + 1) * 2 ^ (52 - M.log2) := Nat.mul_lt_mul_of_pos_right hl (Nat.two_pow_pos _)
    rw [← Nat.pow_add] at hm
    have : M.log2 + 1 + (52 - M.log2) = M.log2 - 52 + 53 := by omega
    rw [this] at hm
    exact hm
  generalize roundE (M * 2 ^ (52 - M.log2)) (M.log2 - 52) = r at *
  obtain ⟨k, hk⟩ : ∃ k : Nat, p + (M.log2 : Int) - 52 + 1074 = ((k + 1 : Nat) : Int) := ⟨(p + (M.log2 : Int) - 52 + 1074).toNat - 1, by omega⟩
  have g1 : (p + (M.log2 : Int) - 52 + 1074).toNat = k + 1 := by omega
  have g2 : (p + (M.log2 : Int) - 52 - 1 + 1074).toNat = k := by omega
  rw [g1, g2]
  have hk2 : k ≤ 2000 := by omega
  have h3 : k * 4503599627370496 ≤ 2000 * 4503599627370496 := Nat.mul_le_mul_right _ hk2
  rw [Nat.add_mul, Nat.one_mul]
  exact min_down _ _ (Nat.mul_pos (by omega) (by omega)) h3 hr

theorem log2_ge {n k : Nat} (h : 2 ^ k ≤ n) : k ≤ n.log2 := by
  have h0 : n ≠ 0 := by have := Nat.two_pow_pos k; omega
  exact (Nat.le_log2 h0).2 h
theorem log2_lt {n k : Nat} (h0 : n ≠ 0) (h : n < 2 ^ k) : n.log2 < k := (Nat.log2_lt h0).2 h

/-- The digits of a quotient of two normal numbers. -/
theorem quot_digits (m n : Nat) (hm1 : 4503599627370496 ≤ m) (hm2 : m < 9007199254740992) (hn1 : 4503599627370496 ≤ n) (hn2 : n < 9007199254740992) (s : Nat) (hs : s ≤ 1) :
    2 * (m * 2 ^ 54 / n) + s ≠ 0 ∧ 54 ≤ (2 * (m * 2 ^ 54 / n) + s).log2 ∧ (2 * (m * 2 ^ 54 / n) + s).log2 < 57 := by
  have e54 : (2 : Nat) ^ 54 = 18014398509481984 := by decide
  have e57 : (2 : Nat) ^ 57 = 144115188075855872 := by decide
  rw [e54]
  have h1 : 9007199254740992 ≤ m * 18014398509481984 / n := by
    rw [Nat.le_div_iff_mul_le (by omega)]
    omega
  have h2 : m * 18014398509481984 / n < 36028797018963968 := by
    rw [Nat.div_lt_iff_lt_mul (by omega)]
    omega
  generalize m * 18014398509481984 / n = q at *
  have h0 : 2 * q + s ≠ 0 := by omega
  refine ⟨h0, log2_ge (by rw [e54]; omega), log2_lt h0 (by rw [e57]; omega)⟩

def digs (m n : Nat) : Nat := 2 * (m * 2 ^ 54 / n) + ((m * 2 ^ 54) % n != 0).toNat
theorem digs_ok (m n : Nat) (hm1 : 4503599627370496 ≤ m) (hm2 : m < 9007199254740992) (hn1 : 4503599627370496 ≤ n) (hn2 : n < 9007199254740992) :
    digs m n ≠ 0 ∧ 54 ≤ (digs m n).log2 ∧ (digs m n).log2 < 57 :=
  quot_digits m n hm1 hm2 hn1 hn2 _ (by cases ((m * 2 ^ 54) % n != 0) <;> decide)
theorem nearest_false (M : Nat) (p : Int) (h : M ≠ 0) : double.nearest false M p = rungOf M p := by
  rw [nearest_eq false M p h, word_d]
  simp only [Bool.false_eq_true, if_false]
theorem write_num (M : Nat) (p : Int) : double.write (Datum.number false M p) = double.nearest false M p := rfl
theorem quot_word (m n : Nat) (i j : Int) (hm1 : 4503599627370496 ≤ m) (hm2 : m < 9007199254740992) (hn1 : 4503599627370496 ≤ n) (hn2 : n < 9007199254740992) :
    Option.map double.write (Datum.quotient (double.fractionBits + 2) (Datum.number false m i) (Datum.number false n j)) = some (rungOf (digs m n) (i - j - 54 - 1)) := by
  have h0 := (digs_ok m n hm1 hm2 hn1 hn2).1
  have lm : m.log2 = 52 := log2_52 hm1 hm2
  have ln : n.log2 = 52 := log2_52 hn1 hn2
  have hn : n ≠ 0 := by omega
  have e : double.fractionBits + 2 + n.log2 - m.log2 = 54 := by rw [lm, ln, fractionBits_d]
  rw [quotient_fin _ _ _ _ _ _ _ hn, e, Nat.shiftLeft_eq, Option.map_some, Bool.xor_false, write_num]
  exact congrArg some (nearest_false (digs m n) _ h0)
theorem quo_read (u w m n : Nat) (i j : Int) (ru : double.read u = Datum.number false m i) (rw_ : double.read w = Datum.number false n j) (hm1 : 4503599627370496 ≤ m) (hm2 : m < 9007199254740992) (hn1 : 4503599627370496 ≤ n) (hn2 : n < 9007199254740992) :
    quo u w = rungOf (digs m n) (i - j - 54 - 1) := by
  have h0 := (digs_ok m n hm1 hm2 hn1 hn2).1
  have e : floatBits .quo .f64 u w = some (rungOf (digs m n) (i - j - 54 - 1)) := by
    show double.div u w = _
    unfold Format.div
    rw [ru, rw_]
    exact quot_word m n i j hm1 hm2 hn1 hn2
  show arithN .quo u w = _
  rw [arith_some e, ← nearest_false _ _ h0, nearest_clean]

theorem read_norm {u : Nat} (h1 : 4503599627370496 ≤ u) (h2 : u < 9218868437227405312) : double.read u = Datum.number false (4503599627370496 + u % 4503599627370496) (-1074 + ((u / 4503599627370496 : Nat) : Int) - 1) := by
  have e : u % 9223372036854775808 = u := Nat.mod_eq_of_lt (by omega)
  have h := read_fin (x := u) (by omega)
  rw [e, negW_small (by omega)] at h
  have hm : magOf u = 4503599627370496 + u % 4503599627370496 := by unfold magOf; rw [if_neg (by omega)]
  have hu : -1074 + ((upOf u : Nat) : Int) = -1074 + ((u / 4503599627370496 : Nat) : Int) - 1 := by unfold upOf; omega
  rw [hm, hu] at h
  exact h

theorem drop_parts (u : Nat) (h : 9007199254740992 ≤ u) : (u - 4503599627370496) % 4503599627370496 = u % 4503599627370496 ∧ (((u - 4503599627370496) / 4503599627370496 : Nat) : Int) = ((u / 4503599627370496 : Nat) : Int) - 1 := by omega

/-- A normal number by a normal one. -/
theorem quo_form (u w : Nat) (hu1 : 4607182418800017408 ≤ u) (hu2 : u < 4635329916471083008) (hw1 : 4562146422526312448 ≤ w) (hw2 : w ≤ 4652218415073722368) :
    ∃ M : Nat, ∃ p : Int, M ≠ 0 ∧ -900 ≤ p + M.log2 ∧ p + M.log2 ≤ 900 ∧ quo u w = rungOf M p ∧ quo (u - 4503599627370496) w = rungOf M (p - 1) := by
  have ru := read_norm (u := u) (by omega) (by omega)
  have ru' := read_norm (u := u - 4503599627370496) (by omega) (by omega)
  have rw_ := read_norm (u := w) (by omega) (by omega)
  obtain ⟨d1, d2⟩ := drop_parts u (by omega)
  rw [d1, d2] at ru'
  have bm : u % 4503599627370496 < 4503599627370496 := Nat.mod_lt _ (by omega)
  have bn : w % 4503599627370496 < 4503599627370496 := Nat.mod_lt _ (by omega)
  have bu : 1023 ≤ u / 4503599627370496 ∧ u / 4503599627370496 ≤ 1029 := by omega
  have bw : 1013 ≤ w / 4503599627370496 ∧ w / 4503599627370496 ≤ 1033 := by omega
  clear d1 d2
  generalize u % 4503599627370496 = m at *
  generalize w % 4503599627370496 = n at *
  generalize u / 4503599627370496 = a at *
  generalize w / 4503599627370496 = b at *
  obtain ⟨h0, h1, h2⟩ := digs_ok (4503599627370496 + m) (4503599627370496 + n) (by omega) (by omega) (by omega) (by omega)
  have q1 := quo_read u w _ _ _ _ ru rw_ (by omega) (by omega) (by omega) (by omega)
  have q2 := quo_read _ w _ _ _ _ ru' rw_ (by omega) (by omega) (by omega) (by omega)
  refine ⟨_, _, h0, ?_, ?_, q1, ?_⟩
  · clear q1 q2; omega
  · clear q1 q2; omega
  · rw [q2]
    refine congrArg (rungOf _) ?_
    clear q1 q2 ru ru' rw_ h1 h2
    omega

/-- .. of a half. -/
theorem quo_half (u w : Nat) (hu1 : 4607182418800017408 ≤ u) (hu2 : u < 4635329916471083008) (hw1 : 4562146422526312448 ≤ w) (hw2 : w ≤ 4652218415073722368) :
    quo u w = quo (less u) w + 4503599627370496 ∧ quo u w < 9218868437227405312 ∧ 0 < quo (less u) w := by
  obtain ⟨M, p, h0, h1, h2, e1, e2⟩ := quo_form u w hu1 hu2 hw1 hw2
  have hl : less u = u - 4503599627370496 := by
    rw [St.less_half (by omega)]
    unfold halfR
    rw [if_neg (by omega)]
  rw [hl, e1, e2]
  exact rungOf_down M p h0 h1 h2

/-- What is compared where all halves are taken. -/
theorem quo_order (u x w y : Nat) (hu : u = 0 ∨ (4607182418800017408 ≤ u ∧ u < 4635329916471083008)) (hx : x = 0 ∨ (4607182418800017408 ≤ x ∧ x < 4635329916471083008))
    (hw1 : 4562146422526312448 ≤ w) (hw2 : w ≤ 4652218415073722368) (hy1 : 4562146422526312448 ≤ y) (hy2 : y ≤ 4652218415073722368) : orderN (quo (less u) w) (quo (less x) y) = orderN (quo u w) (quo x y) := by
  have z0 : ∀ w, 4562146422526312448 ≤ w → w ≤ 4652218415073722368 → quo 0 w = 0 := by
    intro w h1 h2
    have ew : w % 9223372036854775808 = w := Nat.mod_eq_of_lt (by omega)
    have rz : double.read 0 = Datum.number false 0 (-1074) := by decide +kernel
    have rw_ := read_norm (u := w) (by omega) (by omega)
    have hn : 4503599627370496 + w % 4503599627370496 ≠ 0 := by omega
    have e : floatBits .quo .f64 0 w = some 0 := by
      show double.div 0 w = _
      unfold Format.div
      rw [rz, rw_, quotient_fin _ _ _ _ _ _ _ hn]
      rw [Nat.shiftLeft_eq, Nat.zero_mul, Nat.zero_div, Nat.zero_mod]
      rw [Option.map_some, Bool.xor_false, write_num]
      exact congrArg some (by rw [show 2 * 0 + ((0 : Nat) != 0).toNat = 0 from rfl, nearest_zero]; rfl)
    show arithN .quo 0 w = _
    rw [arith_some e]; decide
  have l0 : less 0 = 0 := by decide +kernel
  have rk : ∀ a, a ≤ 9218868437227405312 → rankN a = a := fun a h => (rank_small h).1
  have oo : ∀ a b c d : Nat, a ≤ 9218868437227405312 → b ≤ 9218868437227405312 → c ≤ 9218868437227405312 → d ≤ 9218868437227405312 → (a < b ↔ c < d) → (b < a ↔ d < c) → orderN a b = orderN c d := by
    intro a b c d ha hb hc hd h1 h2
    unfold orderN cmpI
    rw [rk a ha, rk b hb, rk c hc, rk d hd]
    simp only [Int.ofNat_lt]
    by_cases q1 : a < b
    · rw [if_pos q1, if_pos (h1.1 q1)]
    · rw [if_neg q1, if_neg (fun q => q1 (h1.2 q))]
      by_cases q2 : b < a
      · rw [if_pos q2, if_pos (h2.1 q2)]
      · rw [if_neg q2, if_neg (fun q => q2 (h2.2 q))]
  rcases hu with rfl | ⟨u1, u2⟩
  · rw [l0, z0 w hw1 hw2]
    rcases hx with rfl | ⟨x1, x2⟩
    · rw [l0, z0 y hy1 hy2]
    · obtain ⟨q1, q2, q3⟩ := quo_half x y x1 x2 hy1 hy2
      exact oo _ _ _ _ (by omega) (by omega) (by omega) (by omega) (by omega) (by omega)
  · obtain ⟨p1, p2, p3⟩ := quo_half u w u1 u2 hw1 hw2
    rcases hx with rfl | ⟨x1, x2⟩
    · rw [l0, z0 y hy1 hy2]
      exact oo _ _ _ _ (by omega) (by omega) (by omega) (by omega) (by omega) (by omega)
    · obtain ⟨q1, q2, q3⟩ := quo_half x y x1 x2 hy1 hy2
      exact oo _ _ _ _ (by omega) (by omega) (by omega) (by omega) (by omega) (by omega)
end Go.Proofs.Ytdpgpnjjonhdhaa.Fp
