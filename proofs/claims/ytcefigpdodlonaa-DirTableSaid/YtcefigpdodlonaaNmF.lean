/- What the laws of names lean on: cloisterbook.Same of texts where they are the same, and chapter 9's runs. Where bytealg's variable holds a number. -/
import Derived.Test.YtcefigpdodlonaaNmE
namespace Go.Proofs.Ytcefigpdodlonaa.St
open Go.RowKit
set_option linter.unusedVariables false

attribute [local irreducible] Int.lt Int.le
set_option maxRecDepth 100000 in
theorem sameT_yes (a b : Option Addr) (c d : Nat) (ps : List ByteArray) (w : World) (hn : ps.length ≤ 1000000) (ha : TR w a ps) (hb : TR w b ps) :
    Calls Try.prog 12 #[.slice a ps.length c, .slice b ps.length d] w fun e w' => e = .returned (.bool true) ∧ Below w.heap.size w w' := by
  go_enter Try.func12, Try.ntmps12
  go_wp2_with fail
  go_loopw [5] (fun i wr => ∃ j : Nat, j ≤ ps.length ∧ i = .int .i64 (j : Int) ∧ Below w.heap.size w wr) (fun i _ => ps.length - (intOf i).toNat)
  case atStart => exact ⟨0, Nat.zero_le _, rfl, Below.refl _ _⟩
  case round =>
    obtain ⟨j, hj, rfl, hbw⟩ := hrel
    by_cases hlt : j < ps.length
    · have l1 : (j : Int) < (ps.length : Int) := by omega
      have l0 : (0 : Int) ≤ (j : Int) := by omega
      obtain ⟨x, rfl, x0⟩ := ha j hlt
      obtain ⟨y, rfl, y0⟩ := hb j hlt
      have x1 := (hbw.cell (World.block_lt_of_cell? _ _ x0)).trans x0
      have y1 := (hbw.cell (World.block_lt_of_cell? _ _ y0)).trans y0
      clear ha hb x0 y0
      generalize ps[j] = p at *
      go_wp2_with fail
      go_quiet (fail)
      have b2 := below_drewN hbw nq
      clear x1 y1
      generalize wr.drewN nq = W at *
      go_wp2_with fail
      exact ⟨⟨j + 1, by omega, by go_num, b2⟩, by simp [intOf]; omega⟩
    · obtain rfl : j = ps.length := by omega
      clear ha hb
      go_wp2_with fail
      go_ret
      exact ⟨rfl, hbw⟩

theorem run1 : splOk [47, 97, 47, 47, 98, 99, 47] = true ∧ splB [47, 97, 47, 47, 98, 99, 47] = true ∧ splOk [] = false ∧ splOk [97, 98, 99, 100, 101, 102, 103, 104, 105, 106, 107, 108, 109, 110, 111] = false ∧ splB [] = false ∧ splB [97, 98, 99, 100, 101, 102, 103, 104, 105, 106, 107, 108, 109, 110, 111] = false ∧ namesL [47, 97, 47, 47, 98, 99, 47] = [[97], [98, 99]] := by decide +kernel
theorem run2 : unpL (packL [97, 98] 258) = [97, 98] ∧ unpN (packL [97, 98] 258) = 258 := by decide +kernel

end Go.Proofs.Ytcefigpdodlonaa.St
