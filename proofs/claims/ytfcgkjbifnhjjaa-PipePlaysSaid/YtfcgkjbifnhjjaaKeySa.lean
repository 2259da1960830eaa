/- The contract of cloisterbook.Same of keys, where they are the same. No condition but those written in each statement. -/
import Derived.Test.YtfcgkjbifnhjjaaKeySo
import Derived.Laws.StructEq
import Derived.BigQuiet
namespace Go.Proofs.Ytfcgkjbifnhjjaa.St
open Go.RowKit
set_option linter.unusedVariables false

attribute [local irreducible] Int.lt Int.le
set_option maxRecDepth 100000 in
theorem same_yes (a b : Option Addr) (n c1 c2 : Nat) (w : World) (hn : n ≤ 1000000) (h : ∀ i, i < n → ∃ x y A C, a = some x ∧ b = some y ∧ w.cell? (x.add (i * 2)) = some (.int .i64 A) ∧ w.cell? ⟨(x.add (i * 2)).block, (x.add (i * 2)).off + 1, none⟩ = some (.int .i64 C) ∧ w.cell? (y.add (i * 2)) = some (.int .i64 A) ∧ w.cell? ⟨(y.add (i * 2)).block, (y.add (i * 2)).off + 1, none⟩ = some (.int .i64 C)) :
    Calls Try.prog 52 #[.slice a n c1, .slice b n c2] w fun e w' => e = .returned (.bool true) ∧ Below w.heap.size w w' := by
  go_enter Try.func52, Try.ntmps52
  go_wp2_with fail
  go_loopw [5] (fun i wr => ∃ k : Nat, k ≤ n ∧ i = .int .i64 (k : Int) ∧ Below w.heap.size w wr) (fun i _ => n - (intOf i).toNat)
  case atStart => exact ⟨0, Nat.zero_le _, rfl, Below.refl _ _⟩
  case round =>
    obtain ⟨k, hk, rfl, hb⟩ := hrel
    by_cases hlt : k < n
    · have l1 : (k : Int) < (n : Int) := by omega
      have l0 : (0 : Int) ≤ (k : Int) := by omega
      obtain ⟨x, y, A, C, rfl, rfl, x0, x1, y0, y1⟩ := h k hlt
      have x0 := (hb.cell (cell_block_lt x0)).trans x0
      have x1 := (hb.cell (cell_block_lt x1)).trans x1
      have y0 := (hb.cell (cell_block_lt y0)).trans y0
      have y1 := (hb.cell (cell_block_lt y1)).trans y1
      clear h
      go_wp2_with fail
      go_quiet (fail)
      have hb' := below_drewN hb nq
      clear x0 x1 y0 y1 hb
      generalize wr.drewN nq = W at *
      go_wp2_with fail
      exact ⟨⟨k + 1, by omega, by go_num, hb'⟩, by simp [intOf]; omega⟩
    · obtain rfl : k = n := by omega
      clear h
      go_wp2_with fail
      go_ret
      exact ⟨rfl, hb⟩
end Go.Proofs.Ytfcgkjbifnhjjaa.St
