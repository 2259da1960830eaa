/- An ask of a store, loaded and stored whole. No condition but those written in each statement. -/
import Derived.Test.YtncgppdmfnapiaaTwA
namespace Go.Proofs.Ytncgppdmfnapiaa.St
open Go.RowKit
set_option linter.unusedVariables false
/-- An ask's cells, one behind the other. -/
def AskV.cells (q : AskV) : Array Value :=
  #[.int .i64 q.kind, .int .i64 q.k, .int .i64 q.n, .int .i64 (q.v.n 0), .int .i64 (q.v.n 1), .int .i64 (q.v.n 2), .int .i64 (q.v.n 3), .int .i64 (q.v.n 4), .int .i64 (q.v.n 5), .int .i64 (q.v.n 6), .int .i64 (q.v.n 7),
    .int .i64 (q.v.n 8), .int .i64 (q.v.n 9), .int .i64 (q.v.n 10), .int .i64 (q.v.n 11), .int .i64 (q.v.n 12), .int .i64 (q.v.n 13), .int .i64 (q.v.n 14), .int .i64 (q.v.n 15), .string q.v.s]
theorem qcells_size (q : AskV) : q.cells.size = 20 := by simp [AskV.cells]
theorem qcells_one (q : AskV) : q.cells.all (·.oneCell') = true := by simp [AskV.cells, Value.oneCell']
theorem qcells_list (q : AskV) : q.cells.toList = .int .i64 q.kind :: .int .i64 q.k :: .int .i64 q.n :: q.v.cells.toList := by simp [AskV.cells, Val.cells]
theorem qcells_ext (q : AskV) : q.cells.extract 3 (3 + 17) = q.v.cells := by
  apply Array.toList_inj.1
  simp [AskV.cells, Val.cells]
theorem ask_size : (Try.prog.info? 58).map (·.size) = some 20 := by kernel_rfl
theorem ask_struct : ∃ fs, Try.prog.underlying 58 = some (.struct fs) := ⟨_, Try.underlying58⟩
noncomputable def loadQ (p : Value) : Sem Next := do pure (.value (← Instr.loadAt 58 p))
theorem execOp_loadQ (ρ : Operand → Value) (dst : Option Tmp) (x : Operand) (ty : TypeId) (pos : String) (after : Array Edge) (guard : Option (Nat × Bool)) :
    execOp ρ { dst, op := .load 58 x, type := ty, pos, after, guard } = loadQ (ρ x) := rfl
noncomputable def storeQ (p x : Value) : Sem Next := do Instr.storeAt 58 p x; pure .skip
theorem execOp_storeQ (ρ : Operand → Value) (dst : Option Tmp) (x y : Operand) (ty : TypeId) (pos : String) (after : Array Edge) (guard : Option (Nat × Bool)) :
    execOp ρ { dst, op := .store 58 x y, type := ty, pos, after, guard } = storeQ (ρ x) (ρ y) := rfl
/-- l[i], loaded whole. -/
theorem run_loadQ (W : World) (a : Addr) (q : AskV) (h : ∀ j v, q.cells.toList[j]? = some v → W.cell? (a.add j) = some v) :
    (loadQ (.pointer (some a))).run Try.prog W = .ok (.value (.agg q.cells)) W := by
  obtain ⟨fs, hu⟩ := ask_struct
  have hl := run_loadCells_list (P := Try.prog) W a q.cells.toList h
  have h20 : q.cells.toList.length = 20 := by simp [qcells_size]
  rw [h20] at hl
  have hi := ask_size
  cases hq : Try.prog.info? 58 with
  | none => simp [hq] at hi
  | some i =>
    have hs : i.size = 20 := by simpa [hq] using hi
    have hagg : (isAgg 58).run Try.prog W = .ok true W := by
      unfold isAgg
      rw [Sem.run_bind, run_underlying hu W]
      simp
    have hv : (loadVar 58 a).run Try.prog W = .ok (.agg q.cells) W := by
      simp [loadVar, Sem.run_bind, hagg, sizeOf, typeInfo, hq, hs, hl]
    unfold loadQ
    simp only [Instr.loadAt, Instr.sureAddr, Sem.run_bind, Sem.run_pure, Result.andThen_ok, hv]
theorem run_storeQ (W : World) (b : Nat) (q : AskV) (c : Array Value) (t : TypeId) (hl : blk W b = some (.cells c t (0, 0))) (hc : c.size = 20) :
    (storeQ (.pointer (some ⟨b, 0, none⟩)) (.agg q.cells)).run Try.prog W = .ok .skip (W.setRow b q.cells) := by
  have := run_storeVar_row (P := Try.prog) W b t 58 c q.cells hl (by rw [ask_size, qcells_size]) (by rw [hc, qcells_size]) (qcells_one q)
  unfold storeQ
  simp only [Instr.storeAt, Instr.sureAddr, Sem.run_bind, Sem.run_pure, Result.andThen_ok, this]
/-- The asks of a slice, whole, and within bounds. -/
theorem IsAsks.whole {w : World} {a : Option Addr} {len cap : Nat} {z : Nat → AskV} (h : IsAsks w a len cap z) (j : Nat) (hj : j < len) : ∃ x, a = some x ∧ len ≤ cap ∧ (∀ i v, (z j).cells.toList[i]? = some v → w.cell? ((x.add (j * 20)).add i) = some v) ∧ (z j).k ≤ 9223372036854775807 := by
  rcases h with ⟨_, h, _⟩ | ⟨x, rfl, hl, _, hx⟩
  · omega
  · obtain ⟨hc, _, hk, _⟩ := hx j hj
    refine ⟨x, rfl, hl, fun i v hv => ?_, ?_⟩
    · rw [add_two]; exact hc i v (by rw [← qcells_list]; exact hv)
    · simp only [Lit.wf, Bool.and_eq_true, decide_eq_true_eq] at hk
      have h2 : IntKind.max .i64 = 9223372036854775807 := by decide
      omega
/-- What a kept ask's block tells. -/
theorem ask_of_blk {W : World} {b : Nat} {q : AskV} {t : TypeId} {fz : Nat × Nat} (h : blk W b = some (.cells q.cells t fz)) : AskAt W ⟨b, 0, none⟩ q := by
  refine ⟨cell_of_row W b 0 _ _ _ h, cell_of_row W b 1 _ _ _ h, cell_of_row W b 2 _ _ _ h, ?_⟩
  have hr := World.rangeAt_of_block (w := W) h 3 17
  rw [qcells_ext] at hr
  exact hr
end Go.Proofs.Ytncgppdmfnapiaa.St
