/- The contracts of fpu.Op and fpu.Int: each computes the plain function of the same name (text FpDefs), for every operation and every word below 2^64; Op may draw an answer where a NaN comes out. -/
import Derived.Test.YtdpgpnjjonhdhaaFpWalk
namespace Go.Proofs.Ytdpgpnjjonhdhaa.Fp
open Go.RowKit
attribute [local irreducible] Int.lt Int.le

theorem op_arith (op : Int) (q : BinOp) (hq : q = .add ∧ op = 1 ∨ q = .sub ∧ op = 2 ∨ q = .mul ∧ op = 3 ∨ q = .quo ∧ op = 4) (a b : Nat) (w : World) :
    Calls Try.prog 18 #[.int .i64 op, .int .u64 (a : Int), .int .u64 (b : Int)] w fun e w' => e = .returned (.int .u64 (arithN q a b : Nat)) ∧ ∃ n, w.drewN n = w' := by
  have h := arith_any q (by rcases hq with ⟨rfl, _⟩ | ⟨rfl, _⟩ | ⟨rfl, _⟩ | ⟨rfl, _⟩ <;> simp) a b w
  have hf := frombits_call
  have hb := bits_call
  rcases h with ⟨r, hr, hc, hrun⟩ | ⟨r, hr, hc, hrun⟩
  all_goals
    rw [← hc]
    clear hc
    rcases hq with ⟨rfl, rfl⟩ | ⟨rfl, rfl⟩ | ⟨rfl, rfl⟩ | ⟨rfl, rfl⟩
  all_goals
    go_enter Try.func18, Try.ntmps18
    go_wp2_with fail
    refine (clean_any r hr _).mono ?_; rintro e w' ⟨rfl, rfl⟩
    go_wp2_with fail
    go_ret
    first | exact ⟨rfl, 0, rfl⟩ | exact ⟨rfl, 1, rfl⟩

theorem op_pick (op which : Int) (hq : op = 5 ∧ which = -1 ∨ op = 6 ∧ which = 1) (a b : Nat) (ha : a < 18446744073709551616) (hb : b < 18446744073709551616) (w : World) :
    Calls Try.prog 18 #[.int .i64 op, .int .u64 (a : Int), .int .u64 (b : Int)] w fun e w' => e = .returned (.int .u64 (pickN a b which : Nat)) ∧ ∃ n, w.drewN n = w' := by
  have hf := frombits_call
  rcases hq with ⟨rfl, rfl⟩ | ⟨rfl, rfl⟩
  all_goals
    go_enter Try.func18, Try.ntmps18
    go_wp2_with fail
    refine (pick_any a b _ ha hb _).mono ?_; rintro e w' ⟨rfl, rfl⟩
    go_wp2_with fail
    go_ret
    exact ⟨rfl, 0, rfl⟩

theorem op_none (op : Int) (h : op < 1 ∨ 6 < op) (a b : Nat) (w : World) :
    Calls Try.prog 18 #[.int .i64 op, .int .u64 (a : Int), .int .u64 (b : Int)] w fun e w' => e = .returned (.int .u64 (nanWord : Nat)) ∧ ∃ n, w.drewN n = w' := by
  have hf := frombits_call
  have h1 : (op == 1) = false := beq_eq_false_iff_ne.2 (by omega)
  have h2 : (op == 2) = false := beq_eq_false_iff_ne.2 (by omega)
  have h3 : (op == 3) = false := beq_eq_false_iff_ne.2 (by omega)
  have h4 : (op == 4) = false := beq_eq_false_iff_ne.2 (by omega)
  have h5 : (op == 5) = false := beq_eq_false_iff_ne.2 (by omega)
  have h6 : (op == 6) = false := beq_eq_false_iff_ne.2 (by omega)
  clear h
  go_enter Try.func18, Try.ntmps18
  go_wp2_with fail
  go_ret
  exact ⟨rfl, 0, rfl⟩

/-- Op, at every operation. -/
theorem op_any (op : Int) (a b : Nat) (ha : a < 18446744073709551616) (hb : b < 18446744073709551616) (w : World) :
    Calls Try.prog 18 #[.int .i64 op, .int .u64 (a : Int), .int .u64 (b : Int)] w fun e w' => e = .returned (.int .u64 (opN op a b : Nat)) ∧ ∃ n, w.drewN n = w' := by
  unfold opN
  split
  · exact op_arith op .add (by simp_all) a b w
  · split
    · exact op_arith op .sub (by simp_all) a b w
    · split
      · exact op_arith op .mul (by simp_all) a b w
      · split
        · exact op_arith op .quo (by simp_all) a b w
        · split
          · exact op_pick op (-1) (by simp_all) a b ha hb w
          · split
            · exact op_pick op 1 (by simp_all) a b ha hb w
            · exact op_none op (by omega) a b w

end Go.Proofs.Ytdpgpnjjonhdhaa.Fp
