/- The contract of math/bits.TrailingZeros64, where its table holds what its initialiser lays. No condition but those written in each statement. -/
import Derived.Test.YtdlcbclfniahoaaDoorSpB
namespace Go.Proofs.YtdlcbclfniahoaaDoor.St
open Go.RowKit
set_option linter.unusedVariables false

/-- The library's table. -/
def dbL : List Int := [0, 1, 56, 2, 57, 49, 28, 3, 61, 58, 42, 50, 38, 29, 17, 4, 62, 47, 59, 36, 45, 43, 51, 22, 53, 39, 33, 30, 24, 18, 12, 5, 63, 55, 48, 27, 60, 41, 37, 16, 46, 35, 44, 21, 52, 32, 23, 11, 54, 26, 40, 15, 34, 20, 31, 10, 25, 14, 19, 9, 13, 8, 7, 6]
/-- The library's variable holds it. -/
def Bx (w : World) : Prop := ∀ i : Nat, i < 64 → w.cell? ⟨0, i, none⟩ = some (.int .u8 (dbL.getD i 0))
theorem Bx.below {B : Nat} {w w' : World} (h : Bx w) (hB : w.heap.size ≤ B) (hb : Below B w w') : Bx w' := fun i hi => by
  have := World.block_lt_of_cell? _ _ (h i hi)
  exact (hb.cell (by simp at this ⊢; omega)).trans (h i hi)
theorem Bx.turn {S : Nat → Prop} {w w' : World} (h : Bx w) (hb : Turn S w w') (hS : ¬ S 0) : Bx w' := fun i hi => by
  have hlt := World.block_lt_of_cell? _ _ (h i hi)
  rw [World.cell?_of_block (hb.block _ (by simpa using hlt) hS)]
  exact h i hi
/-- Where the table is looked at. -/
def dbN (a : Int) : Int := IntKind.u64.wrap (bits .and .u64 a (IntKind.u64.wrap (-a)) * 285870213051353865) / 288230376151711744
theorem dbN_bounds (a : Int) : 0 ≤ dbN a ∧ dbN a < 64 := by
  unfold dbN
  generalize bits .and .u64 a (IntKind.u64.wrap (-a)) * 285870213051353865 = y
  have : 0 ≤ IntKind.u64.wrap y ∧ IntKind.u64.wrap y < 18446744073709551616 := by
    simp [IntKind.wrap, IntKind.bits, IntKind.signed]; omega
  omega
theorem db_bounds : ∀ i : Nat, i < 64 → 0 ≤ dbL.getD i 0 ∧ dbL.getD i 0 < 64 := by decide
def tz64 (a : Int) : Int := dbL.getD (dbN a).toNat 0
attribute [local irreducible] Int.lt Int.le
set_option maxRecDepth 100000 in
theorem tz_any (a : Int) (h0 : (a == 0) = false) (w : World) (hB : Bx w) :
    Calls Tryd.prog 23 #[.int .u64 a] w fun e w' => e = .returned (.int .i64 (tz64 a)) ∧ w = w' := by
  obtain ⟨j, hj⟩ : ∃ j : Nat, dbN a = (j : Int) := ⟨(dbN a).toNat, by have := dbN_bounds a; omega⟩
  have hb := dbN_bounds a
  have hc := hB j (by omega)
  have l0 : (0 : Int) ≤ (j : Int) := by omega
  have l1 : (j : Int) < 64 := by omega
  rw [show tz64 a = dbL.getD j 0 by unfold tz64; rw [hj]; rfl]
  obtain ⟨v, hv⟩ : ∃ v, v = dbL.getD j 0 := ⟨_, rfl⟩
  have hw : wrap64 v = v := by
    have := db_bounds j (by omega)
    rw [← hv] at this
    unfold wrap64; omega
  have Hw := Lib.hid hw
  clear hw
  rw [← hv] at hc ⊢
  unfold dbN at hj
  clear hb hB hv
  go_enter Tryd.func23, Tryd.ntmps23
  go_wp2_with fail
  go_ret
  exact ⟨by show Ending.returned (.int .i64 (wrap64 v)) = _; rw [Hw.out], rfl⟩
/-! ### space.Grow, where it refuses -/
set_option maxRecDepth 100000 in
theorem sgrow_no (L : Lay) (st : VSt) (p n : Int) (h : qState st p = 0 ∨ (qState st p ≠ 0 ∧ n < 0)) (w : World) (hV : ViewAt w L st) :
    Calls Tryd.prog 8 #[.pointer (some ⟨L.v, 0, none⟩), .int .i64 p, .int .i64 n] w fun e w' => e = .returned (.bool false) ∧ ViewAt w' L (qSaw st p) ∧ Turn (· = L.r) w w' := by
  obtain ⟨q, hq⟩ : ∃ q, q = qState st p := ⟨_, rfl⟩
  rw [← hq] at h
  have Hq := Lib.hid hq
  clear hq
  have hc : (q == 0) = true ∨ ((q == 0) = false ∧ decide (n < 0) = true) := by
    rcases h with rfl | ⟨h1, h2⟩
    · exact Or.inl rfl
    · exact Or.inr ⟨beq_eq_false_iff_ne.2 h1, decide_eq_true h2⟩
  clear h
  rcases hc with h1 | ⟨h1, h2⟩
  all_goals
    go_enter Tryd.func8, Tryd.ntmps8
    go_wp2_with fail
    refine (qstate_any L st p w hV).mono ?_; rw [← Hq.out]; rintro e w1 ⟨rfl, hv1, t1⟩
    go_wp2_with fail
    go_ret
    exact ⟨rfl, hv1, t1⟩
set_option maxRecDepth 100000 in
theorem sshrink_no (L : Lay) (st : VSt) (p n : Int) (h : qState st p = 0 ∨ (qState st p ≠ 0 ∧ n < 0)) (w : World) (hV : ViewAt w L st) :
    Calls Tryd.prog 10 #[.pointer (some ⟨L.v, 0, none⟩), .int .i64 p, .int .i64 n] w fun e w' => e = .returned (.tuple #[.slice none 0 0, .bool false]) ∧ ViewAt w' L (qSaw st p) ∧ Turn (· = L.r) w w' := by
  obtain ⟨q, hq⟩ : ∃ q, q = qState st p := ⟨_, rfl⟩
  rw [← hq] at h
  have Hq := Lib.hid hq
  clear hq
  have hc : (q == 0) = true ∨ ((q == 0) = false ∧ decide (n < 0) = true) := by
    rcases h with rfl | ⟨h1, h2⟩
    · exact Or.inl rfl
    · exact Or.inr ⟨beq_eq_false_iff_ne.2 h1, decide_eq_true h2⟩
  clear h
  rcases hc with h1 | ⟨h1, h2⟩
  all_goals
    go_enter Tryd.func10, Tryd.ntmps10
    go_wp2_with fail
    refine (qstate_any L st p w hV).mono ?_; rw [← Hq.out]; rintro e w1 ⟨rfl, hv1, t1⟩
    go_wp2_with fail
    go_ret2
    exact ⟨rfl, hv1, t1⟩
end Go.Proofs.YtdlcbclfniahoaaDoor.St
