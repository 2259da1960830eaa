/- The contracts of fpu.Op and fpu.Int: each computes the plain function of the same name (text FpDefs), for every operation and every word below 2^64; Op may draw an answer where a NaN comes out. -/
import Derived.Test.YtdkofonpkbjjmaaFpWalk
namespace Go.Proofs.Ytdkofonpkbjjmaa.Fp
open Go.RowKit
attribute [local irreducible] Int.lt Int.le

theorem op_arith (op : Int) (q : BinOp) (hq : q = .add ∧ op = 1 ∨ q = .sub ∧ op = 2 ∨ q = .mul ∧ op = 3 ∨ q = .quo ∧ op = 4) (a b : Nat) (w : World) :
    Calls Try.prog 12 #[.int .i64 op, .int .u64 (a : Int), .int .u64 (b : Int)] w fun e w' => e = .returned (.int .u64 (arithN q a b : Nat)) ∧ ∃ n, w.drewN n = w' := by
  have h := arith_any q (by rcases hq with ⟨rfl, _⟩ | ⟨rfl, _⟩ | ⟨rfl, _⟩ | ⟨rfl, _⟩ <;> simp) a b w
  have hf := frombits_call
  have hb := bits_call
  rcases h with ⟨r, hr, hc, hrun⟩ | ⟨r, hr, hc, hrun⟩
  all_goals
    rw [← hc]
    clear hc
    rcases hq with ⟨rfl, rfl⟩ | ⟨rfl, rfl⟩ | ⟨rfl, rfl⟩ | ⟨rfl, rfl⟩
  all_goals
    go_enter Try.func12, Try.ntmps12
    go_wp2_with fail
    refine (clean_any r hr _).mono ?_; rintro e w' ⟨rfl, rfl⟩
    go_wp2_with fail
    go_ret
    first | exact ⟨rfl, 0, rfl⟩ | exact ⟨rfl, 1, rfl⟩

theorem op_pick (op which : Int) (hq : op = 5 ∧ which = -1 ∨ op = 6 ∧ which = 1) (a b : Nat) (ha : a < 18446744073709551616) (hb : b < 18446744073709551616) (w : World) :
    Calls Try.prog 12 #[.int .i64 op, .int .u64 (a : Int), .int .u64 (b : Int)] w fun e w' => e = .returned (.int .u64 (pickN a b which : Nat)) ∧ ∃ n, w.drewN n = w' := by
  have hf := frombits_call
  rcases hq with ⟨rfl, rfl⟩ | ⟨rfl, rfl⟩
  all_goals
    go_enter Try.func12, Try.ntmps12
    go_wp2_with fail
    refine (pick_any a b _ ha hb _).mono ?_; rintro e w' ⟨rfl, rfl⟩
    go_wp2_with fail
    go_ret
    exact ⟨rfl, 0, rfl⟩

theorem op_none (op : Int) (h : op < 1 ∨ 6 < op) (a b : Nat) (w : World) :
    Calls Try.prog 12 #[.int .i64 op, .int .u64 (a : Int), .int .u64 (b : Int)] w fun e w' => e = .returned (.int .u64 (nanWord : Nat)) ∧ ∃ n, w.drewN n = w' := by
  have hf := frombits_call
  have h1 : (op == 1) = false := beq_eq_false_iff_ne.2 (by omega)
  have h2 : (op == 2) = false := beq_eq_false_iff_ne.2 (by omega)
  have h3 : (op == 3) = false := beq_eq_false_iff_ne.2 (by omega)
  have h4 : (op == 4) = false := beq_eq_false_iff_ne.2 (by omega)
  have h5 : (op == 5) = false := beq_eq_false_iff_ne.2 (by omega)
  have h6 : (op == 6) = false := beq_eq_false_iff_ne.2 (by omega)
  clear h
  go_enter Try.func12, Try.ntmps12
  go_wp2_with fail
  go_ret
  exact ⟨rfl, 0, rfl⟩

/-- Op, at every operation. -/
theorem op_any (op : Int) (a b : Nat) (ha : a < 18446744073709551616) (hb : b < 18446744073709551616) (w : World) :
    Calls Try.prog 12 #[.int .i64 op, .int .u64 (a : Int), .int .u64 (b : Int)] w fun e w' => e = .returned (.int .u64 (opN op a b : Nat)) ∧ ∃ n, w.drewN n = w' := by
  unfold opN
  split
  · exact op_arith op .add (by simp_all) a b w
  · split
    · exact op_arith op .sub (by simp_all) a b w
    · split
      · exact op_arith op .mul (by simp_all) a b w
      · split
        · exact op_arith op .quo (by simp_all) a b w
        · split
          · exact op_pick op (-1) (by simp_all) a b ha hb w
          · split
            · exact op_pick op 1 (by simp_all) a b ha hb w
            · exact op_none op (by omega) a b w

/-- Int, of what is no NaN. -/
theorem int_any (x : Nat) (hx : x < 18446744073709551616)
    (hn : nanN x = false → FloatKind.f64.format.order x 4890909195324358656 = some .lt → FloatKind.f64.format.order x 14114281232179134464 ≠ some .lt → floatToIntVal .f64 x .i64 = some (((FloatKind.f64.decode x).toInt .zero).getD 0))
    (ho : nanN x = false → FloatKind.f64.format.order x 4890909195324358656 ≠ none) (w : World) :
    Calls Try.prog 11 #[.int .u64 (x : Int)] w fun e w' => e = .returned (.tuple #[.int .i64 (intN x).1, .bool (intN x).2]) ∧ w = w' := by
  have hf := frombits_call
  cases h1 : nanN x with
  | true =>
    have Hp := Lib.hid (show intN x = (0, false) by unfold intN; rw [h1]; rfl)
    clear hn ho
    go_enter Try.func11, Try.ntmps11
    go_wp2_with fail
    refine (isNaN_any x hx _).mono ?_; rw [h1]; rintro e w' ⟨rfl, rfl⟩
    go_wp2_with fail
    go_ret2
    rw [Hp.out]
    exact ⟨rfl, rfl⟩
  | false =>
    have hn := hn h1
    have ho := ho h1
    cases hq : FloatKind.f64.format.order x 4890909195324358656 with
    | none => exact absurd hq ho
    | some o =>
      clear ho
      cases o
      case gt | eq =>
        have Hp := Lib.hid (show intN x = (9223372036854775807, false) by unfold intN; rw [h1, hq]; rfl)
        clear hn
        go_enter Try.func11, Try.ntmps11
        go_wp2_with fail
        refine (isNaN_any x hx _).mono ?_; rw [h1]; rintro e w' ⟨rfl, rfl⟩
        go_wp2_with fail
        go_ret2
        rw [Hp.out]
        exact ⟨rfl, rfl⟩
      case lt =>
        by_cases hl : FloatKind.f64.format.order x 14114281232179134464 = some .lt
        · have Hp := Lib.hid (show intN x = (-9223372036854775808, false) by unfold intN; rw [h1, hq, hl]; rfl)
          clear hn
          go_enter Try.func11, Try.ntmps11
          go_wp2_with fail
          refine (isNaN_any x hx _).mono ?_; rw [h1]; rintro e w' ⟨rfl, rfl⟩
          go_wp2_with fail
          go_ret2
          rw [Hp.out]
          exact ⟨rfl, rfl⟩
        · have hn := hn hq hl
          have Hp := Lib.hid (show intN x = (((FloatKind.f64.decode x).toInt .zero).getD 0, true) by unfold intN; rw [h1, hq]; simp [hl])
          have hcv := fun w => run_convert_float_int (P := Try.prog) w 38 3 .f64 .i64 x _ (by rw [Try.underlying38]; rfl) Try.underlying3 hn
          have hl2 : (FloatKind.f64.format.order x 14114281232179134464 == some .lt) = false := by simpa using hl
          generalize ((FloatKind.f64.decode x).toInt .zero).getD 0 = n at *
          clear hn hl
          go_enter Try.func11, Try.ntmps11
          go_wp2_with fail
          refine (isNaN_any x hx _).mono ?_; rw [h1]; rintro e w' ⟨rfl, rfl⟩
          go_wp2_with fail
          go_ret2
          rw [Hp.out]
          exact ⟨rfl, rfl⟩
end Go.Proofs.Ytdkofonpkbjjmaa.Fp
