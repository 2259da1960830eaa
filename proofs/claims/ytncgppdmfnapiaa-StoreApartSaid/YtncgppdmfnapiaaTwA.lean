/- The asks of a store as a walk reads them. No condition but those written in each statement. -/
import Derived.Test.YtncgppdmfnapiaaAsk
import Derived.Test.YtncgppdmfnapiaaStRu
namespace Go.Proofs.Ytncgppdmfnapiaa.St
open Go.RowKit
set_option linter.unusedVariables false
theorem add_two (x : Addr) (i j : Nat) : (x.add i).add j = x.add (i + j) := by
  unfold Addr.add
  by_cases h : i = 0
  · subst h; simp
  · by_cases h2 : j = 0
    · subst h2; simp [h]
    · simp [h, h2]; omega
/-- An ask's cells. -/
abbrev AskAt (W : World) (a : Addr) (q : AskV) : Prop :=
  W.cell? a = some (.int .i64 q.kind) ∧ W.cell? ⟨a.block, a.off + 1, none⟩ = some (.int .i64 q.k) ∧ W.cell? ⟨a.block, a.off + 1 + 1, none⟩ = some (.int .i64 q.n) ∧ W.rangeAt a.block (a.off + 3) q.v.cells.toList
theorem ask_lt {W : World} {a : Addr} {q : AskV} (h : AskAt W a q) : a.block < W.heap.size := cell_block_lt h.1
theorem ask_blk {W W' : World} {a : Addr} {q : AskV} (h : AskAt W a q) (hb : W'.heap[a.block]? = W.heap[a.block]?) : AskAt W' a q := by
  have e : ∀ p : Addr, p.block = a.block → W'.cell? p = W.cell? p := fun p hp => by simp only [World.cell?, hp, hb]
  exact ⟨(e a rfl).trans h.1, (e ⟨a.block, a.off + 1, none⟩ rfl).trans h.2.1, (e ⟨a.block, a.off + 1 + 1, none⟩ rfl).trans h.2.2.1, fun j v hv => (e ⟨a.block, a.off + 3 + j, none⟩ rfl).trans (h.2.2.2 j v hv)⟩
theorem ask_turn {S : Nat → Prop} {W W' : World} {a : Addr} {q : AskV} (h : AskAt W a q) (hT : Turn S W W') (hS : ¬ S a.block) : AskAt W' a q := ask_blk h (hT.block a.block (ask_lt h) hS)
theorem ask_below {B : Nat} {W W' : World} {a : Addr} {q : AskV} (h : AskAt W a q) (hT : Below B W W') (hB : a.block < B) : AskAt W' a q := ask_blk h (hT.block a.block hB)
/-- The asks of a slice, one by one. -/
theorem IsAsks.at {w : World} {a : Option Addr} {len cap : Nat} {z : Nat → AskV} (h : IsAsks w a len cap z) (j : Nat) (hj : j < len) : ∃ x, a = some x ∧ len ≤ cap ∧ AskAt w (x.add (j * 20)) (z j) := by
  rcases h with ⟨_, h, _⟩ | ⟨x, rfl, hl, _, hx⟩
  · omega
  · refine ⟨x, rfl, hl, ?_⟩
    obtain ⟨hc, _⟩ := hx j hj
    have f1 := add_field x (j * 20)
    refine ⟨?_, ?_, ?_, fun i v hv => ?_⟩
    · have := hc 0 _ rfl; simpa using this
    · have := hc 1 _ rfl; rwa [f1 1 (by omega)] at this
    · have := hc 2 _ rfl; rwa [f1 2 (by omega)] at this
    · have := hc (i + 3) v (by simpa using hv)
      rwa [f1 (i + 3) (by omega), show (x.add (j * 20)).off + (i + 3) = (x.add (j * 20)).off + 3 + i by omega] at this
theorem run_loadV_range (W : World) (b o : Nat) (x : Val) (h : W.rangeAt b o x.cells.toList) : (loadV (.pointer (some ⟨b, o, none⟩))).run Try.prog W = .ok (.value (.agg x.cells)) W := by
  obtain ⟨fs, hu⟩ := val_struct
  have := run_loadVar_mid (P := Try.prog) W b o 44 x.cells.toList _ h hu rfl (by rw [val_size]; simp [Val.cells])
  unfold loadV
  simp only [Instr.loadAt, Instr.sureAddr, Sem.run_bind, Sem.run_pure, Result.andThen_ok, this]
end Go.Proofs.Ytncgppdmfnapiaa.St
