/- The bits of a number that the code takes away; plain. No condition but those written in each statement. -/
import Derived.Test.YtdlcbclfniahoaaDoorPipA
import Derived.Test.YtdlcbclfniahoaaDoorBitA
namespace Go.Proofs.YtdlcbclfniahoaaDoor.St
open Go.RowKit
set_option linter.unusedVariables false

theorem bit_unmark (x : Int) (i j : Nat) (hj : j < 64) : bitB (unmarkN x i) j = (bitB x j && !decide (i = j)) := by
  unfold bitB unmarkN
  show (BitVec.ofInt 64 (IntKind.i64.wrap (((BitVec.ofInt 64 x) &&& ~~~(BitVec.ofInt 64 (wrap64 (2 ^ i)))).toNat : Int))).getLsbD j = _
  rw [ofInt_wrap, BitVec.getLsbD_and, BitVec.getLsbD_not, ofInt_wrap64, ofInt_pow, BitVec.getLsbD_twoPow]
  by_cases e : i = j
  · subst e; simp [hj]
  · simp [e]; intro _; exact hj
theorem used_unmark (x : Int) (i j : Nat) (hj : j < 64) : usedI (unmarkN x i) j = (usedI x j && !decide (i = j)) := by
  rw [used_bit _ _ hj, used_bit _ _ hj, bit_unmark x i j hj]
end Go.Proofs.YtdlcbclfniahoaaDoor.St
