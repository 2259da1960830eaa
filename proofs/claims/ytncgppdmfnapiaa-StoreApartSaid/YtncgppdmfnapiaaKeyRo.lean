/- The walk of cloisterlaw7.KeyRow. No condition but those written in the statement. -/
import Derived.Test.YtncgppdmfnapiaaKeyRu
import Derived.Test.YtncgppdmfnapiaaLawKit
import Derived.Test.YtncgppdmfnapiaaWithin
import Derived.Deep.Cut
namespace Go.Proofs.Ytncgppdmfnapiaa.St
open Go.RowKit
set_option linter.unusedVariables false

/-- Of the 55 places. -/
def rowOk (p : Nat) : Bool := (atK p).isSome && placeI ((atK p).getD (0, 0)).1 ((atK p).getD (0, 0)).2 == (p : Int)
def pairOk (p q : Nat) : Bool := decide (((atK p).getD (0, 0)).1 < ((atK q).getD (0, 0)).1) || (((atK p).getD (0, 0)).1 == ((atK q).getD (0, 0)).1 && decide (((atK p).getD (0, 0)).2 < ((atK q).getD (0, 0)).2))
theorem rows_ok : (List.range 55).all rowOk = true := by decide +kernel
theorem pairs_ok : (List.range 55).all (fun q => (List.range q).all fun p => pairOk p q) = true := by decide +kernel

theorem k_row_at (p : Nat) (h : p < 55) : (atK p).isSome = true ∧ placeI ((atK p).getD (0, 0)).1 ((atK p).getD (0, 0)).2 = p := by
  have := List.all_eq_true.1 rows_ok p (by simpa using h)
  unfold rowOk at this
  rw [Bool.and_eq_true] at this
  exact ⟨this.1, by simpa using this.2⟩
theorem pair_at (p q : Nat) (h : q < 55) (hp : p < q) : ((atK p).getD (0, 0)).1 < ((atK q).getD (0, 0)).1 ∨ ((atK p).getD (0, 0)).1 = ((atK q).getD (0, 0)).1 ∧ ((atK p).getD (0, 0)).2 < ((atK q).getD (0, 0)).2 := by
  have := List.all_eq_true.1 (List.all_eq_true.1 pairs_ok q (by simpa using h)) p (by simpa using hp)
  unfold pairOk at this
  rw [Bool.or_eq_true, Bool.and_eq_true] at this
  rcases this with a | ⟨a, b⟩
  · exact Or.inl (by simpa using a)
  · exact Or.inr ⟨by simpa using a, by simpa using b⟩

theorem at_row (p : Nat) (h : p < 55) (w : World) : Calls Try.prog 12 #[.int .i64 p] w fun e w' => e = .returned (.tuple #[.agg #[.int .i64 ((atK p).getD (0, 0)).1, .int .i64 ((atK p).getD (0, 0)).2], .bool true]) ∧ Below w.heap.size w w' := by
  have k := at_any p (by omega) w
  rw [(k_row_at p h).1] at k
  exact k
theorem atF_out : ∀ d : Nat, d ≤ 12 → ∀ p : Int, 55 - aheadN (13 - d) ≤ p → atF d p = none := by
  intro d
  induction d with
  | zero => intro _ p _; rfl
  | succ d ih =>
    intro hd p hp
    have hs := aheadN_succ (12 - d) (by omega)
    rw [show 12 - d + 1 = 13 - d by omega] at hs
    rw [show 13 - (d + 1) = 12 - d by omega] at hp
    have hm := many_bounds (12 - d : Nat)
    have hb : manyI (12 - d : Nat) ≤ 55 - aheadN (12 - d) := by
      have : d = 0 ∨ d = 1 ∨ d = 2 ∨ d = 3 ∨ d = 4 ∨ d = 5 ∨ d = 6 ∨ d = 7 ∨ d = 8 ∨ d = 9 ∨ d = 10 ∨ d = 11 := by omega
      rcases this with rfl | rfl | rfl | rfl | rfl | rfl | rfl | rfl | rfl | rfl | rfl | rfl <;> decide
    rw [atF, if_neg (by omega)]
    exact ih (by omega) _ (by omega)
theorem at_out (p : Int) (h : p < 0 ∨ 55 ≤ p) (h2 : p ≤ 9223372036854775807) (w : World) : Calls Try.prog 12 #[.int .i64 p] w fun e w' => e = .returned (.tuple #[.agg #[.int .i64 0, .int .i64 0], .bool false]) ∧ Below w.heap.size w w' := by
  have k := at_any p h2 w
  have e : atK p = none := by
    unfold atK
    by_cases q : p < 0
    · rw [if_pos q]
    · rw [if_neg q]; exact atF_out 12 (by omega) p (by rw [show aheadN (13 - 12) = 0 by decide]; omega)
  rw [show atV p = .agg #[.int .i64 0, .int .i64 0] by unfold atV; rw [e]; rfl, e] at k
  exact k
theorem place_row (A C : Int) (P : Int) (h : placeI A C = P) (w : World) : Calls Try.prog 14 #[.agg #[.int .i64 A, .int .i64 C]] w fun e w' => e = .returned (.int .i64 P) ∧ Below w.heap.size w w' := by
  have k := place_any A C w
  rw [h] at k
  exact k

attribute [local irreducible] Int.lt Int.le
set_option maxRecDepth 100000 in
set_option maxHeartbeats 4000000 in
theorem keyRow_walk (a0 : Int) (a1 : Int) (w : World) (w0 : (Lit.int .i64 a0).wf = true) (w1 : (Lit.int .i64 a1).wf = true) :
    Calls Try.prog 5 #[.int .i64 a0, .int .i64 a1] w fun e w' => e = .returned (.bool true) ∧ Below w.heap.size w w' := by
  clear w0 w1
  have wa := Fp.within_bounds a0 0 54 (by omega)
  have wb := Fp.within_bounds a1 0 54 (by omega)
  go_enter Try.func5, Try.ntmps5
  go_wp2_with fail
  refine (all_any _).mono ?_; rintro e W1 ⟨rfl, rfl⟩
  go_wp2_with fail
  refine (Fp.within_any a0 0 54 (by omega) (by omega) (by omega) _).mono ?_; rintro e W1 ⟨rfl, rfl⟩
  go_wp2_with fail
  refine (all_any _).mono ?_; rintro e W1 ⟨rfl, rfl⟩
  go_wp2_with fail
  refine (Fp.within_any a1 0 54 (by omega) (by omega) (by omega) _).mono ?_; rintro e W1 ⟨rfl, rfl⟩
  obtain ⟨p, hp⟩ := Int.eq_ofNat_of_zero_le wa.1
  obtain ⟨q, hq⟩ := Int.eq_ofNat_of_zero_le wb.1
  rw [hp] at wa
  rw [hq] at wb
  rw [hp, hq]
  clear hp hq
  have hp5 : p < 55 := by omega
  have hq5 : q < 55 := by omega
  have hrp := (k_row_at p hp5).2
  have hrq := (k_row_at q hq5).2
  have hap := fun W => at_row p hp5 W
  have haq := fun W => at_row q hq5 W
  have key : ((p : Int) = q ∧ ((atK p).getD (0, 0)).1 = ((atK q).getD (0, 0)).1 ∧ ((atK p).getD (0, 0)).2 = ((atK q).getD (0, 0)).2) ∨ ((p : Int) < q ∧ (((atK p).getD (0, 0)).1 < ((atK q).getD (0, 0)).1 ∨ ((atK p).getD (0, 0)).1 = ((atK q).getD (0, 0)).1 ∧ ((atK p).getD (0, 0)).2 < ((atK q).getD (0, 0)).2)) ∨ ((q : Int) < p ∧ (((atK q).getD (0, 0)).1 < ((atK p).getD (0, 0)).1 ∨ ((atK q).getD (0, 0)).1 = ((atK p).getD (0, 0)).1 ∧ ((atK q).getD (0, 0)).2 < ((atK p).getD (0, 0)).2)) := by
    rcases Nat.lt_trichotomy p q with h | h | h
    · exact Or.inr (Or.inl ⟨by omega, pair_at p q hq5 h⟩)
    · subst h; exact Or.inl ⟨rfl, rfl, rfl⟩
    · exact Or.inr (Or.inr ⟨by omega, pair_at q p hp5 h⟩)
  generalize ((atK p).getD (0, 0)).1 = A at *
  generalize ((atK p).getD (0, 0)).2 = C at *
  generalize ((atK q).getD (0, 0)).1 = D at *
  generalize ((atK q).getD (0, 0)).2 = E at *
  have Hap := Lib.hid hap
  have Haq := Lib.hid haq
  have Hrp := Lib.hid hrp
  have Hrq := Lib.hid hrq
  clear hap haq hrp hrq
  go_wp2_with fail
  refine (Hap.out _).mono ?_; rintro e W1 ⟨rfl, t1⟩
  go_wp2_with fail
  have u1 := t1.alloc t1.size (Obj.cells #[Value.int IntKind.i64 A, Value.int IntKind.i64 C] 23)
  have k1 : blk (W1.alloc (Obj.cells #[Value.int IntKind.i64 A, Value.int IntKind.i64 C] 23)) W1.heap.size = some (.cells #[.int .i64 A, .int .i64 C] 23 (0, 0)) := blk_alloc_at _ _ _ rfl
  generalize W1.alloc (Obj.cells #[Value.int IntKind.i64 A, Value.int IntKind.i64 C] 23) = W2 at *
  generalize W1.heap.size = B at *
  clear t1
  refine (Haq.out _).mono ?_; rintro e W3 ⟨rfl, t3⟩
  have k3 := (t3.block B (lt_of_heap k1)).trans k1
  have u3 := u1.trans (t3.mono u1.size)
  clear t3 k1 u1
  go_upto_region 4 with fail
  have u4 := u3.alloc u3.size (Obj.cells #[Value.int IntKind.i64 D, Value.int IntKind.i64 E] 23)
  have k4 : blk (W3.alloc (Obj.cells #[Value.int IntKind.i64 D, Value.int IntKind.i64 E] 23)) W3.heap.size = some (.cells #[.int .i64 D, .int .i64 E] 23 (0, 0)) := blk_alloc_at _ _ _ rfl
  have k5 : blk (W3.alloc (Obj.cells #[Value.int IntKind.i64 D, Value.int IntKind.i64 E] 23)) B = some (.cells #[.int .i64 A, .int .i64 C] 23 (0, 0)) := by rw [blk_alloc_past _ _ _ (lt_of_heap k3)]; exact k3
  generalize W3.alloc (Obj.cells #[Value.int IntKind.i64 D, Value.int IntKind.i64 E] 23) = W4 at *
  generalize W3.heap.size = B2 at *
  clear k3 u3
  have c0 := cell_of_row W4 B 0 _ _ _ k5
  have c1 := cell_of_row W4 B 1 _ _ _ k5
  have d0 := cell_of_row W4 B2 0 _ _ _ k4
  have d1 := cell_of_row W4 B2 1 _ _ _ k4
  simp at c0 c1 d0 d1
  go_wp2_with fail
  refine (place_row A C _ Hrp.out _).mono ?_; rintro e W5 ⟨rfl, t5⟩
  have c0 := (t5.cell (cell_block_lt c0)).trans c0
  have c1 := (t5.cell (cell_block_lt c1)).trans c1
  have d0 := (t5.cell (cell_block_lt d0)).trans d0
  have d1 := (t5.cell (cell_block_lt d1)).trans d1
  have u5 := u4.trans (t5.mono u4.size)
  clear t5 u4 k4 k5
  go_wp2_with fail
  refine (place_row D E _ Hrq.out _).mono ?_; rintro e W6 ⟨rfl, t6⟩
  have c0 := (t6.cell (cell_block_lt c0)).trans c0
  have c1 := (t6.cell (cell_block_lt c1)).trans c1
  have d0 := (t6.cell (cell_block_lt d0)).trans d0
  have d1 := (t6.cell (cell_block_lt d1)).trans d1
  have u6 := u5.trans (t6.mono u5.size)
  clear t6 u5
  have hlo := fun W => at_out (-1 - (p : Int)) (by omega) (by omega) W
  have hhi := fun W => at_out (55 + (p : Int)) (by omega) (by omega) W
  have Hlo := Lib.hid hlo
  have Hhi := Lib.hid hhi
  clear hlo hhi Hap Haq Hrp Hrq
  rcases key with ⟨r1, r2, r3⟩ | ⟨r1, r2 | ⟨r2, r3⟩⟩ | ⟨r1, r2 | ⟨r2, r3⟩⟩
  case' inl =>
    subst r2 r3
    obtain rfl : p = q := by omega
  case' inr.inl.inl =>
    have n1 : ¬ A = D := by omega
    have n2 : ¬ (p : Int) = q := by omega
    have n6 : ((p : Int) == (q : Int)) = false := beq_eq_false_iff_ne.2 n2
    have n3 : ¬ D < A := by omega
  case' inr.inl.inr =>
    subst r2
    have n1 : ¬ C = E := by omega
    have n4 : ¬ E = C := by omega
    have n5 : (C == E) = false := beq_eq_false_iff_ne.2 n1
    have n2 : ¬ (p : Int) = q := by omega
    have n6 : ((p : Int) == (q : Int)) = false := beq_eq_false_iff_ne.2 n2
    have n3 : ¬ E ≤ C := by omega
  case' inr.inr.inl =>
    have n1 : ¬ A = D := by omega
    have n2 : ¬ (p : Int) = q := by omega
    have n6 : ((p : Int) == (q : Int)) = false := beq_eq_false_iff_ne.2 n2
    have n3 : ¬ (p : Int) < q := by omega
  case' inr.inr.inr =>
    subst r2
    have n1 : ¬ C = E := by omega
    have n4 : ¬ E = C := by omega
    have n5 : (C == E) = false := beq_eq_false_iff_ne.2 n1
    have n2 : ¬ (p : Int) = q := by omega
    have n6 : ((p : Int) == (q : Int)) = false := beq_eq_false_iff_ne.2 n2
    have n3 : ¬ (p : Int) < q := by omega
  all_goals
    go_wp2_with fail
    refine (Hlo.out _).mono ?_; rintro e W7 ⟨rfl, t7⟩
    have u7 := u6.trans (t7.mono u6.size)
    clear Hlo t7 u6 c0 c1 d0 d1
    go_wp2_with fail
    have u8 := u7.alloc u7.size (Obj.cells #[Value.int IntKind.i64 0, Value.int IntKind.i64 0] 23)
    clear u7
    generalize W7.alloc (Obj.cells #[Value.int IntKind.i64 0, Value.int IntKind.i64 0] 23) = W8 at *
    refine (all_any _).mono ?_; rintro e W9 ⟨rfl, rfl⟩
    go_wp2_with fail
    refine (Hhi.out _).mono ?_; rintro e W9 ⟨rfl, t9⟩
    have u9 := u8.trans (t9.mono u8.size)
    clear Hhi t9 u8
    go_wp2_with fail
    have ua := u9.alloc u9.size (Obj.cells #[Value.int IntKind.i64 0, Value.int IntKind.i64 0] 23)
    clear u9
    generalize W9.alloc (Obj.cells #[Value.int IntKind.i64 0, Value.int IntKind.i64 0] 23) = Wa at *
    refine (kruns_any _).mono ?_; rintro e Wd ⟨rfl, td⟩
    go_wp2_with fail
    go_ret
    exact ⟨rfl, ua.trans (td.mono ua.size)⟩
end Go.Proofs.Ytncgppdmfnapiaa.St
