/- The contracts of the document's own RightName and Split: the same names of a path. For a text of at most 2^20 bytes. -/
import Derived.Test.YtcefigpdodlonaaDoorNmB
namespace Go.Proofs.YtcefigpdodlonaaDoor.St
open Go.RowKit
set_option linter.unusedVariables false

theorem byte47' {b : UInt8} (h : b ≠ 47) : ¬ (b.toNat : Int) = 47 := fun e => h (UInt8.toNat_inj.1 (by show b.toNat = 47; omega))
theorem byte0' {b : UInt8} (h : b ≠ 0) : ¬ (b.toNat : Int) = 0 := fun e => h (UInt8.toNat_inj.1 (by show b.toNat = 0; omega))
theorem byte47 {b : UInt8} (h : b ≠ 47) : ((b.toNat : Int) == 47) = false := beq_eq_false_iff_ne.2 (byte47' h)
theorem byte0 {b : UInt8} (h : b ≠ 0) : ((b.toNat : Int) == 0) = false := beq_eq_false_iff_ne.2 (byte0' h)
theorem at_list (s : ByteArray) (j : Nat) (h : j < s.size) : ∃ h2, s.data.toList[j]'h2 = s[j] := ⟨by rw [size_list]; exact h, by simp; rfl⟩

attribute [local irreducible] Int.lt Int.le
theorem glue_end (cu : List UInt8) : nePcs (glue cu (pcs [])) = if cu = [] then [] else [cu] := by
  show nePcs [cu ++ []] = _
  rw [List.append_nil, nePcs_cons]; simp [nePcs]
theorem glue_slash (cu t : List UInt8) : nePcs (glue cu (pcs (47 :: t))) = (if cu = [] then [] else [cu]) ++ nePcs (glue [] (pcs t)) := by
  rw [pcs_slash, glue_nil (pcs_ne t)]
  show nePcs ((cu ++ []) :: pcs t) = _
  rw [List.append_nil, nePcs_cons]
theorem glue_names (l : List UInt8) : namesL l = nePcs (glue [] (pcs (l.drop 0))) := by rw [List.drop_zero, glue_nil (pcs_ne l)]; rfl
theorem bs_append (a b : List UInt8) : bs a ++ bs b = bs (a ++ b) := by
  apply ByteArray.ext; unfold bs; simp

end Go.Proofs.YtcefigpdodlonaaDoor.St
