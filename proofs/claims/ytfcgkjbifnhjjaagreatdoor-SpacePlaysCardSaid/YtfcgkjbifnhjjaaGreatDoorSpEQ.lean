/- The contract of cloisterlaw16's pool: stores with two processes and a pool of pages. No condition but those written in each statement. -/
import Derived.Test.YtfcgkjbifnhjjaaGreatDoorQ62
import Derived.Test.YtfcgkjbifnhjjaaGreatDoorKeepMQ
namespace Go.Proofs.YtfcgkjbifnhjjaaGreatDoor.St
open Go.RowKit
set_option linter.unusedVariables false

theorem Std.from {w0 w W : World} {t : Nat} {L : Lay} {d q : Nat} {st : VSt} (S : Std w t L d q st W) (h : Below w0.heap.size w0 w) : Std w0 t L d q st W :=
  ⟨S.v, S.t, h.trans (S.b.mono h.size), Nat.le_trans h.size S.r, Nat.le_trans h.size S.m⟩
section
variable {w W : World} {t : Nat} {L : Lay} {d q : Nat} {st : VSt}
theorem sq_new (S : Std w t L d q st W) (bb : Int) (h : -1 ≤ bb ∧ bb ≤ 1000) : Calls Tryz.prog 83 #[.pointer (some ⟨L.v, 0, none⟩), .int .i64 bb] W fun e W' => e = .returned (.tuple #[.int .i64 (qNum st), .bool (decide (qFree st < 8))]) ∧ Std w t L d q (qAlloc st bb) W' ∧ Maps L W W' :=
  (qnew_any L st bb h W S.v).mono fun e W' ⟨a, b, c⟩ => ⟨a, S.step b c, c⟩
end
/-- The pool's value; the state of the laws' beginning. -/
def poolV (n : Int) : Val := Val.zero.set 0 n
def pl0 (n : Int) : VSt := VSt.fresh (storePut (fun _ => Val.zero) 2 0 (poolV n))
def pl1 (n : Int) : VSt := qAlloc (pl0 n) (-1)
def pl2 (n : Int) : VSt := qAlloc (pl1 n) 0
theorem pl0_free (n : Int) : qFree (pl0 n) = 0 := by kernel_rfl
theorem pl1_free (n : Int) : qFree (pl1 n) = 1 := by kernel_rfl

/-- A write built whole; a row of one write. -/
noncomputable def buildW (a b : Value) : Sem Next := do pure (.value (← Instr.build 62 #[(0, a), (1, b)]))
theorem execOp_buildW (ρ : Operand → Value) (dst : Option Tmp) (a b : Operand) (ty : TypeId) (pos : String) (after : Array Edge) (guard : Option (Nat × Bool)) :
    execOp ρ { dst, op := .build 62 #[(0, a), (1, b)], type := ty, pos, after, guard } = buildW (ρ a) (ρ b) := by simp [execOp, buildW]
theorem run_buildW (k m : Int) (x : Val) (W : World) : (buildW (keyV k m) (.agg x.cells)).run Tryz.prog W = .ok (.value (.agg (wcells k m x))) W := by kernel_rfl
noncomputable def rowW (a : Value) : Sem Next := do pure (.value (← Instr.buildSlice 22 1 #[(0, a)]))
theorem execOp_rowW (ρ : Operand → Value) (dst : Option Tmp) (a : Operand) (ty : TypeId) (pos : String) (after : Array Edge) (guard : Option (Nat × Bool)) :
    execOp ρ { dst, op := .buildSlice 22 1 #[(0, a)], type := ty, pos, after, guard } = rowW (ρ a) := by simp [execOp, rowW]
theorem run_rowW (k m : Int) (x : Val) (W : World) : (rowW (.agg (wcells k m x))).run Tryz.prog W = .ok (.value (.slice (some ⟨W.heap.size, 0, none⟩) 1 1)) (W.alloc (.cells (wcells k m x) 62)) := by kernel_rfl

attribute [local go_sem] run_buildW run_rowW
attribute [local go_sem ↓] execOp_buildW execOp_rowW
attribute [local go_sem] blk_alloc_at blk_alloc_past blk_drew blk_drewN blk_setB_same blk_setB_other blk_setRow_other setRow_alloc_at setRow_alloc_past setRow_drewN setRow_drew setB_size setB_cell setB_frozen setB_alloc_past setB_drewN setB_drew run_loadV loadOr_cells run_storeV storeOr_cells cells_size ones_cells cells_0 cells_1 cells_2 cells_16
attribute [local go_sem ↓] execOp_loadV execOp_storeV
attribute [local go_sem ↓] wp_at0 wp_at1 wp_at2 wp_at3 wp_at4 wp_at5 wp_at6 wp_at7
attribute [local irreducible] Int.lt Int.le
set_option maxRecDepth 100000 in
set_option maxHeartbeats 1000000 in
theorem lpool_any (n : Int) (w : World) :
    Calls Tryz.prog 52 #[.int .i64 n] w fun e w' => ∃ t d q, ∃ L : Lay, e = .returned (.pointer (some ⟨t, 0, none⟩)) ∧ Std w t L d q (pl2 n) w' := by
  have hz := zero_val
  go_enter Tryz.func52, Tryz.ntmps52
  go_upto_region 3 with fail
  rw [cells_set0, show Val.zero.set 0 n = poolV n from rfl]
  go_upto_region 4 with fail
  have hrow : blk ((w.alloc (Obj.cells (poolV n).cells 60)).alloc (Obj.cells (wcells 2 0 (poolV n)) 62)) (w.heap.size + 1) = some (.cells (wcells 2 0 (poolV n)) 62 (0, 0)) := blk_alloc_at _ _ _ (by simp)
  have hb : Below w.heap.size w ((w.alloc (Obj.cells (poolV n).cells 60)).alloc (Obj.cells (wcells 2 0 (poolV n)) 62)) := ((Below.refl _ _).alloc (Nat.le_refl _) _).alloc (by simp) _
  generalize ((w.alloc (Obj.cells (poolV n).cells 60)).alloc (Obj.cells (wcells 2 0 (poolV n)) 62)) = W0 at *
  refine (tnew_one (w.heap.size + 1) 2 0 (poolV n) (by decide) (by decide) rfl W0 hrow).mono ?_; rintro e W1 ⟨t, d, q, L, rfl, S1⟩
  have S1 := S1.from hb
  have c1 := S1.cell
  clear hrow hb
  go_wp2_with fail
  have h1 := sq_new S1 (-1) (by decide)
  rw [show qNum (VSt.fresh (storePut (fun _ => Val.zero) 2 0 (poolV n))) = 0 by unfold qNum; rw [show qFree (VSt.fresh (storePut (fun _ => Val.zero) 2 0 (poolV n))) = 0 from pl0_free n]; rfl, show qFree (VSt.fresh (storePut (fun _ => Val.zero) 2 0 (poolV n))) = 0 from pl0_free n] at h1
  refine h1.mono ?_; rintro e W2 ⟨rfl, S2, _⟩
  rw [show qAlloc (VSt.fresh (storePut (fun _ => Val.zero) 2 0 (poolV n))) (-1) = pl1 n from rfl] at S2
  clear S1 h1 c1
  have c2 := S2.cell
  go_wp2_with fail
  have h2 := sq_new S2 0 (by decide)
  rw [show qNum (pl1 n) = 1 by unfold qNum; rw [pl1_free]; rfl, pl1_free] at h2
  refine h2.mono ?_; rintro e W3 ⟨rfl, S3, _⟩
  rw [show qAlloc (pl1 n) 0 = pl2 n from rfl] at S3
  clear S2 h2 c2
  go_wp2_with fail
  go_ret
  exact ⟨t, d, q, L, rfl, S3⟩
end Go.Proofs.YtfcgkjbifnhjjaaGreatDoor.St
