/- Equality of objects' values and of writes that are the same. No condition but those written in each statement. -/
import Derived.Test.YtfcgkjbifnhjjaaGreatDoorWriQ
import Derived.Laws.StructEq
import Derived.ChangeKeysEq
namespace Go.Proofs.YtfcgkjbifnhjjaaGreatDoor.St
open Go.RowKit
set_option linter.unusedVariables false

theorem int_info : Tryz.prog.info? 3 = some ((Tryz.prog.info? 3).getD default) := by kernel_rfl
theorem part_int (xs : Array Value) (i : Nat) (v : Value) (h : xs[i]? = some v) (w : World) : (part 3 xs i).run Tryz.prog w = .ok v w := by
  simp [part, isAgg, run_underlying Tryz.underlying3, h]
theorem part_str (xs : Array Value) (i : Nat) (v : Value) (h : xs[i]? = some v) (w : World) : (part 9 xs i).run Tryz.prog w = .ok v w := by
  simp [part, isAgg, run_underlying Tryz.underlying9, h]
theorem int_cells : Tryz.prog.cellsOf 3 = 1 := by kernel_rfl
theorem items_self (d c : Nat) (hc : c = 1) (xs : Array Value) (w : World) : ∀ is : List Nat, (∀ i ∈ is, ∃ z, xs[i]? = some (.int .i64 z)) → (Op.eqItems (d + 1) 3 c xs xs is).run Tryz.prog w = .ok true w
  | [], _ => rfl
  | i :: is, h => by
    obtain ⟨z, hz⟩ := h i (by simp)
    have hp := part_int xs i _ hz w
    subst hc
    simp only [Op.eqItems, Sem.run_bind, Nat.mul_one, hp, Result.andThen_ok, run_equalIn_int w d _ _ _ z z Tryz.underlying3]
    simp only [BEq.rfl, Bool.not_true, Bool.false_eq_true, if_false]
    exact items_self d 1 rfl xs w is fun j hj => h j (by simp [hj])
def Val.nums (x : Val) : Array Value := #[.int .i64 (x.n 0), .int .i64 (x.n 1), .int .i64 (x.n 2), .int .i64 (x.n 3), .int .i64 (x.n 4), .int .i64 (x.n 5), .int .i64 (x.n 6), .int .i64 (x.n 7), .int .i64 (x.n 8), .int .i64 (x.n 9), .int .i64 (x.n 10), .int .i64 (x.n 11), .int .i64 (x.n 12), .int .i64 (x.n 13), .int .i64 (x.n 14), .int .i64 (x.n 15)]
theorem nums_ext (x : Val) : x.cells.extract 0 (0 + 16) = x.nums := by
  apply Array.toList_inj.1
  simp [Val.nums, Val.cells]
theorem cell_num (x : Val) (i : Nat) (h : i < 16) : x.nums[i]? = some (.int .i64 (x.n i)) := by
  have : i = 0 ∨ i = 1 ∨ i = 2 ∨ i = 3 ∨ i = 4 ∨ i = 5 ∨ i = 6 ∨ i = 7 ∨ i = 8 ∨ i = 9 ∨ i = 10 ∨ i = 11 ∨ i = 12 ∨ i = 13 ∨ i = 14 ∨ i = 15 := by omega
  rcases this with rfl | rfl | rfl | rfl | rfl | rfl | rfl | rfl | rfl | rfl | rfl | rfl | rfl | rfl | rfl | rfl <;> rfl
theorem eqF_step {P : Program} {d : Nat} {xs ys : Array Value} {f : Field} {fs : List Field} {a b : Value} {w : World} (hn : f.name ≠ "_") (pa : (part f.type xs f.offset).run P w = .ok a w) (pb : (part f.type ys f.offset).run P w = .ok b w)
    (hr : (Op.equalIn d f.type a b).run P w = .ok true w) (h : (Op.eqFields d xs ys fs).run P w = .ok true w) : (Op.eqFields d xs ys (f :: fs)).run P w = .ok true w := by
  unfold Op.eqFields
  rw [if_pos hn]
  rw [Sem.run_bind, pa, Result.andThen_ok, Sem.run_bind, pb, Result.andThen_ok, Sem.run_bind, hr, Result.andThen_ok]
  exact h
theorem part_nums (x : Val) (w : World) : (part 58 x.cells 0).run Tryz.prog w = .ok (.agg x.nums) w := by
  have h := Tryz.underlying58
  have hz : (sizeOf 58).run Tryz.prog w = .ok 16 w := by kernel_rfl
  simp only [part, isAgg, Sem.run_bind, run_underlying h, Result.andThen_ok, Sem.run_pure, if_true, hz, nums_ext]
theorem wcells_ext0 (k m : Int) (x : Val) : (wcells k m x).extract 0 (0 + 2) = #[.int .i64 k, .int .i64 m] := by
  apply Array.toList_inj.1
  simp [wcells]
theorem part_key (k m : Int) (x : Val) (w : World) : (part 57 (wcells k m x) 0).run Tryz.prog w = .ok (.agg #[.int .i64 k, .int .i64 m]) w := by
  have h := Tryz.underlying57
  have hz : (sizeOf 57).run Tryz.prog w = .ok 2 w := by kernel_rfl
  simp only [part, isAgg, Sem.run_bind, run_underlying h, Result.andThen_ok, Sem.run_pure, if_true, hz, wcells_ext0]
theorem part_val (k m : Int) (x : Val) (w : World) : (part 60 (wcells k m x) 2).run Tryz.prog w = .ok (.agg x.cells) w := by
  have h := Tryz.underlying60
  have hz : (sizeOf 60).run Tryz.prog w = .ok 17 w := by kernel_rfl
  simp only [part, isAgg, Sem.run_bind, run_underlying h, Result.andThen_ok, Sem.run_pure, if_true, hz, wcells_ext]
theorem eqV_self (d : Nat) (x : Val) (w : World) : (Op.equalIn (d + 3) 60 (.agg x.cells) (.agg x.cells)).run Tryz.prog w = .ok true w := by
  have hu := Tryz.underlying60
  have hf : Tryz.prog.underlying 60 = some (.struct (Tryz.prog.fieldsOf 60)) := by simp [Program.fieldsOf, hu]
  rw [run_equalIn_struct w (d + 2) _ _ _ hf (by kernel_rfl)]
  simp only [Program.fieldsOf, hu]
  have p0 := part_nums x w
  have p1 := part_str x.cells 16 _ (cells_16 x) w
  have i0 := run_equalIn_array (w := w) (d + 1) x.nums x.nums Tryz.underlying58 int_info
  have i1 := i0.trans (items_self d _ int_cells x.nums w (List.range 16) fun i hi => ⟨_, cell_num x i (List.mem_range.1 hi)⟩)
  clear i0
  have s1 : (Op.equalIn (d + 2) 9 (.string x.s) (.string x.s)).run Tryz.prog w = .ok true w := by
    rw [run_equalIn_string w (d + 1) _ _ _ Tryz.underlying9, BEq.rfl]
  exact eqF_step (by decide) p0 p0 i1 (eqF_step (by decide) p1 p1 s1 rfl)
theorem eqK_self (d : Nat) (k m : Int) (w : World) : (Op.equalIn (d + 3) 57 (.agg #[.int .i64 k, .int .i64 m]) (.agg #[.int .i64 k, .int .i64 m])).run Tryz.prog w = .ok true w := by
  have hk := Tryz.underlying57
  have hkf : Tryz.prog.underlying 57 = some (.struct (Tryz.prog.fieldsOf 57)) := by simp [Program.fieldsOf, hk]
  rw [run_equalIn_struct w (d + 2) _ _ _ hkf (by kernel_rfl)]
  simp only [Program.fieldsOf, hk]
  have g0 := part_int #[Value.int .i64 k, .int .i64 m] 0 (.int .i64 k) rfl w
  have g1 := part_int #[Value.int .i64 k, .int .i64 m] 1 (.int .i64 m) rfl w
  have n0 : (Op.equalIn (d + 2) 3 (.int .i64 k) (.int .i64 k)).run Tryz.prog w = .ok true w := by rw [run_equalIn_int w (d + 1) _ _ _ _ _ Tryz.underlying3, BEq.rfl]
  have n1 : (Op.equalIn (d + 2) 3 (.int .i64 m) (.int .i64 m)).run Tryz.prog w = .ok true w := by rw [run_equalIn_int w (d + 1) _ _ _ _ _ Tryz.underlying3, BEq.rfl]
  exact eqF_step (by decide) g0 g0 n0 (eqF_step (by decide) g1 g1 n1 rfl)
theorem eqW_self (d : Nat) (k m : Int) (x : Val) (w : World) : (Op.equalIn (d + 4) 62 (.agg (wcells k m x)) (.agg (wcells k m x))).run Tryz.prog w = .ok true w := by
  have hu := Tryz.underlying62
  have hf : Tryz.prog.underlying 62 = some (.struct (Tryz.prog.fieldsOf 62)) := by simp [Program.fieldsOf, hu]
  rw [run_equalIn_struct w (d + 3) _ _ _ hf (by kernel_rfl)]
  simp only [Program.fieldsOf, hu]
  exact eqF_step (by decide) (part_key k m x w) (part_key k m x w) (eqK_self d k m w) (eqF_step (by decide) (part_val k m x w) (part_val k m x w) (eqV_self d x w) rfl)
end Go.Proofs.YtfcgkjbifnhjjaaGreatDoor.St
