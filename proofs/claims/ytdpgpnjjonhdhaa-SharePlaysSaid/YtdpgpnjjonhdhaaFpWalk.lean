/- The contracts of the package fpu's functions: each computes the plain function of the same name (text FpDefs), for every word below 2^64; the world stays, but that Op may draw an answer where a NaN comes out. -/
import Derived.Test.YtdpgpnjjonhdhaaRows
import Derived.Test.YtdpgpnjjonhdhaaFpDefs
import Derived.WalkKit
import Derived.WalkLawsBesides
import Derived.RowKit3
import Derived.Outline
import Derived.Lib.Hide
import Derived.Deep.Draws
namespace Go.Proofs.Ytdpgpnjjonhdhaa.Fp
open Go.RowKit
attribute [local irreducible] Int.lt Int.le

theorem ret_int {k : IntKind} {a b : Int} (h : a = b) : Ending.returned (.int k a) = .returned (.int k b) := by rw [h]

theorem kind_any (x : Nat) (hx : x < 18446744073709551616) (w : World) :
    Calls Try.prog 28 #[.int .u64 (x : Int)] w fun e w' => e = .returned (.int .i64 (kindN x)) ∧ w = w' := by
  have hb := andNot_sign x hx
  unfold kindN
  generalize magN x = u at *
  clear hx
  go_enter Try.func28, Try.ntmps28
  go_wp2
  all_goals (go_ret; refine ⟨ret_int ?_, rfl⟩; (try simp only [beq_iff_eq, beq_eq_false_iff_ne, ne_eq] at *); unfold kindI; repeat' split)
  all_goals first | rfl | (exfalso; omega)

theorem isNaN_any (x : Nat) (hx : x < 18446744073709551616) (w : World) :
    Calls Try.prog 45 #[.int .u64 (x : Int)] w fun e w' => e = .returned (.bool (nanN x)) ∧ w = w' := by
  have hk := kind_nan x
  go_enter Try.func45, Try.ntmps45
  go_wp2_with (go_at_call 28; refine (kind_any x hx _).mono ?_; rintro e w' ⟨rfl, rfl⟩)
  go_ret
  exact ⟨rfl, rfl⟩

theorem clean_any (x : Nat) (hx : x < 18446744073709551616) (w : World) :
    Calls Try.prog 36 #[.int .u64 (x : Int)] w fun e w' => e = .returned (.int .u64 (cleanN x : Nat)) ∧ w = w' := by
  unfold cleanN
  cases hk : nanN x
  all_goals
    go_enter Try.func36, Try.ntmps36
    go_wp2_with (go_at_call 45; refine (isNaN_any x hx _).mono ?_; rintro e w' ⟨rfl, rfl⟩)
    go_ret
    exact ⟨rfl, rfl⟩

theorem arith_any (op : BinOp) (hop : op = .add ∨ op = .sub ∨ op = .mul ∨ op = .quo) (x y : Nat) (w : World) :
    (∃ r, r < 18446744073709551616 ∧ cleanN r = arithN op x y ∧ (binOp op 60 (.float .f64 x) (.float .f64 y)).run Try.prog w = .ok (.float .f64 r) w) ∨
    (∃ r, r < 18446744073709551616 ∧ cleanN r = arithN op x y ∧ (binOp op 60 (.float .f64 x) (.float .f64 y)).run Try.prog w = .ok (.float .f64 r) w.drew) := by
  cases h : floatBits op .f64 x y with
  | some r =>
    left
    have hb := floatBits_wf h
    simp [Lit.wf] at hb
    exact ⟨r, hb, by unfold arithN; rw [h], run_float_arith w op _ _ _ _ _ h⟩
  | none =>
    right
    obtain ⟨b, h1, h2, h3⟩ := nan_drawn op 60 x y Try.prog w hop h
    refine ⟨b, h2, ?_, h3⟩
    unfold arithN cleanN
    rw [h, h1]; rfl

theorem cmpI_any (a b : Int) (w : World) :
    Calls Try.prog 38 #[.int .i64 a, .int .i64 b] w fun e w' => e = .returned (.int .i64 (cmpI a b)) ∧ w = w' := by
  go_enter Try.func38, Try.ntmps38
  go_wp2
  all_goals (go_ret; refine ⟨ret_int ?_, rfl⟩; unfold cmpI; repeat' split)
  all_goals first | rfl | (exfalso; omega)

theorem rank_any (x : Nat) (hx : x < 18446744073709551616) (w : World) :
    Calls Try.prog 39 #[.int .u64 (x : Int)] w fun e w' => e = .returned (.int .i64 (rankN x)) ∧ w = w' := by
  have hc := cleanN_lt hx
  unfold rankN
  generalize hm : cleanN x = c at *
  have Hm := Lib.hid hm
  clear hm
  by_cases h : (c : Int) < 9223372036854775808
  · rw [if_pos h]
    have hw : IntKind.i64.wrap (c : Int) = c := by unfold IntKind.wrap; simp [IntKind.bits, IntKind.signed]; omega
    go_enter Try.func39, Try.ntmps39
    go_wp2_with (go_at_call 36; refine (clean_any x hx _).mono ?_; rw [Hm.out]; rintro e w' ⟨rfl, rfl⟩)
    all_goals (go_ret; exact ⟨rfl, rfl⟩)
  · rw [if_neg h]
    have hw : IntKind.i64.wrap (c : Int) = c - 18446744073709551616 := by unfold IntKind.wrap; simp [IntKind.bits, IntKind.signed]; omega
    go_enter Try.func39, Try.ntmps39
    go_wp2_with (go_at_call 36; refine (clean_any x hx _).mono ?_; rw [Hm.out]; rintro e w' ⟨rfl, rfl⟩)
    all_goals (go_ret; refine ⟨ret_int (by omega), rfl⟩)

theorem order_any (a b : Nat) (ha : a < 18446744073709551616) (hb : b < 18446744073709551616) (w : World) :
    Calls Try.prog 20 #[.int .u64 (a : Int), .int .u64 (b : Int)] w fun e w' => e = .returned (.int .i64 (orderN a b)) ∧ w = w' := by
  unfold orderN
  go_enter Try.func20, Try.ntmps20
  go_wp2_with fail
  refine (rank_any a ha _).mono ?_; rintro e w' ⟨rfl, rfl⟩
  go_wp2_with fail
  refine (rank_any b hb _).mono ?_; rintro e w' ⟨rfl, rfl⟩
  go_wp2_with fail
  refine (cmpI_any _ _ _).mono ?_; rintro e w' ⟨rfl, rfl⟩
  go_wp2_with fail
  go_ret
  exact ⟨rfl, rfl⟩

theorem cmpF_any (a b : Nat) (ha : FloatKind.f64.format.order a a = some .eq) (hb : FloatKind.f64.format.order b b = some .eq) (w : World) :
    Calls Try.prog 46 #[.float .f64 a, .float .f64 b] w fun e w' => e = .returned (.int .i64 (cmpF a b)) ∧ w = w' := by
  cases ho : FloatKind.f64.format.order a b with
  | none =>
    go_enter Try.func46, Try.ntmps46
    go_wp2
    go_ret
    exact ⟨ret_int (by unfold cmpF; rw [ho]), rfl⟩
  | some o =>
    cases o
    all_goals
      go_enter Try.func46, Try.ntmps46
      go_wp2
      go_ret
      exact ⟨ret_int (by unfold cmpF; rw [ho]), rfl⟩

theorem bits_call (b : Nat) (w : World) : (callFunc 32 #[.float .f64 b]).run Try.prog w = .ok (.value (.int .u64 (b : Int))) w := by
  rw [run_callFunc_extern (e := Extern.MathFloatBits.float64bits) Try.func32 (by kernel_rfl) (by kernel_rfl) (by kernel_rfl) (by kernel_rfl)]
  rfl

theorem frombits_call (b : Nat) (w : World) : (callFunc 35 #[.int .u64 (b : Int)]).run Try.prog w = .ok (.value (.float .f64 b)) w := by
  rw [run_callFunc_extern (e := Extern.MathFloatBits.float64frombits) Try.func35 (by kernel_rfl) (by kernel_rfl) (by kernel_rfl) (by kernel_rfl)]
  rfl

theorem of_any (n : Int) (w : World) :
    Calls Try.prog 11 #[.int .i64 n] w fun e w' => e = .returned (.int .u64 (ofN n : Nat)) ∧ w = w' := by
  have hcv := fun w => run_convert_int_float (P := Try.prog) w 3 60 .i64 .f64 n (by rw [Try.underlying3]; rfl) Try.underlying60
  have hb := bits_call
  unfold ofN
  go_enter Try.func11, Try.ntmps11
  go_wp2
  go_ret
  exact ⟨rfl, rfl⟩

theorem cmp_no (a b : Nat) (ha : a < 18446744073709551616) (hb : b < 18446744073709551616) (h : nanN a = true ∨ nanN b = true) (w : World) :
    Calls Try.prog 29 #[.int .u64 (a : Int), .int .u64 (b : Int)] w fun e w' => e = .returned (.int .i64 2) ∧ w = w' := by
  cases h1 : nanN a
  all_goals
    simp [h1] at h
    go_enter Try.func29, Try.ntmps29
    go_wp2_with fail
    refine (isNaN_any a ha _).mono ?_; rw [h1]; rintro e w' ⟨rfl, rfl⟩
    go_wp2_with fail
    try (refine (isNaN_any b hb _).mono ?_; rw [h]; rintro e w' ⟨rfl, rfl⟩; go_wp2_with fail)
    go_ret
    exact ⟨rfl, rfl⟩

theorem cmp_yes (a b : Nat) (ha : a < 18446744073709551616) (hb : b < 18446744073709551616) (h1 : nanN a = false) (h2 : nanN b = false)
    (oa : FloatKind.f64.format.order a a = some .eq) (ob : FloatKind.f64.format.order b b = some .eq) (w : World) :
    Calls Try.prog 29 #[.int .u64 (a : Int), .int .u64 (b : Int)] w fun e w' => e = .returned (.int .i64 (cmpF a b)) ∧ w = w' := by
  have hf := frombits_call
  go_enter Try.func29, Try.ntmps29
  go_wp2_with fail
  refine (isNaN_any a ha _).mono ?_; rw [h1]; rintro e w' ⟨rfl, rfl⟩
  go_wp2_with fail
  refine (isNaN_any b hb _).mono ?_; rw [h2]; rintro e w' ⟨rfl, rfl⟩
  go_wp2_with fail
  refine (cmpF_any a b oa ob _).mono ?_; rintro e w' ⟨rfl, rfl⟩
  go_wp2_with fail
  go_ret
  exact ⟨rfl, rfl⟩

theorem pick_any (a b : Nat) (which : Int) (ha : a < 18446744073709551616) (hb : b < 18446744073709551616) (w : World) :
    Calls Try.prog 37 #[.int .u64 (a : Int), .int .u64 (b : Int), .int .i64 which] w fun e w' => e = .returned (.int .u64 (pickN a b which : Nat)) ∧ w = w' := by
  cases h1 : nanN a with
  | true =>
    have hp : pickN a b which = cleanN b := by unfold pickN; rw [h1]; rfl
    have Hp := Lib.hid hp
    clear hp
    go_enter Try.func37, Try.ntmps37
    go_wp2_with fail
    refine (isNaN_any a ha _).mono ?_; rw [h1]; rintro e w' ⟨rfl, rfl⟩
    go_wp2_with fail
    refine (clean_any b hb _).mono ?_; rintro e w' ⟨rfl, rfl⟩
    go_wp2_with fail
    go_ret
    rw [Hp.out]
    exact ⟨rfl, rfl⟩
  | false =>
    cases h2 : nanN b with
    | true =>
      have hp : pickN a b which = cleanN a := by unfold pickN; rw [h1, h2]; rfl
      have Hp := Lib.hid hp
      clear hp
      go_enter Try.func37, Try.ntmps37
      go_wp2_with fail
      refine (isNaN_any a ha _).mono ?_; rw [h1]; rintro e w' ⟨rfl, rfl⟩
      go_wp2_with fail
      refine (isNaN_any b hb _).mono ?_; rw [h2]; rintro e w' ⟨rfl, rfl⟩
      go_wp2_with fail
      refine (clean_any a ha _).mono ?_; rintro e w' ⟨rfl, rfl⟩
      go_wp2_with fail
      go_ret
      rw [Hp.out]
      exact ⟨rfl, rfl⟩
    | false =>
      cases h3 : (orderN b a == which)
      all_goals
        have hp : pickN a b which = if (orderN b a == which) = true then cleanN b else cleanN a := by unfold pickN; rw [h1, h2]; simp
        rw [h3] at hp
        simp at hp
        have Hp := Lib.hid hp
        clear hp
        go_enter Try.func37, Try.ntmps37
        go_wp2_with fail
        refine (isNaN_any a ha _).mono ?_; rw [h1]; rintro e w' ⟨rfl, rfl⟩
        go_wp2_with fail
        refine (isNaN_any b hb _).mono ?_; rw [h2]; rintro e w' ⟨rfl, rfl⟩
        go_wp2_with fail
        refine (order_any b a hb ha _).mono ?_; rintro e w' ⟨rfl, rfl⟩
        go_wp2_with fail
        first | (refine (clean_any a ha _).mono ?_) | (refine (clean_any b hb _).mono ?_)
        rintro e w' ⟨rfl, rfl⟩
        go_wp2_with fail
        go_ret
        rw [Hp.out]
        exact ⟨rfl, rfl⟩

end Go.Proofs.Ytdpgpnjjonhdhaa.Fp
