/- The contract of inode.Read and inode.Write over a view in memory. No condition but those written in each statement. -/
import Derived.Test.YtfcgkjbifnhjjaaInoD
namespace Go.Proofs.Ytfcgkjbifnhjjaa.St
open Go.RowKit
set_option linter.unusedVariables false

attribute [local go_sem] blk_alloc_at blk_alloc_past blk_drew blk_drewN blk_setB_same blk_setB_other blk_setRow_other setRow_alloc_at setRow_alloc_past setRow_drewN setRow_drew setB_size setB_cell setB_frozen setB_alloc_past setB_drewN setB_drew run_loadV loadOr_cells run_storeV storeOr_cells cells_size ones_cells cells_0 cells_1 cells_2 cells_16 cells_g0 cells_g1 cells_g2 cells_g16 cells_set0 cells_set1 cells_set2 cells_text
attribute [local go_sem ↓] execOp_loadV execOp_storeV
attribute [local go_sem ↓] wp_at0 wp_at1 wp_at2 wp_at3 wp_at4 wp_at5 wp_at6 wp_at7

theorem iread_out (L : Lay) (st : VSt) (i off n : Int) (hc : decide (off < 0) = true ∨ decide (off < 0) = false ∧ decide (((iVal st i).s.size : Int) ≤ off) = true ∨ decide (off < 0) = false ∧ decide (((iVal st i).s.size : Int) ≤ off) = false ∧ decide (n < 1) = true) (w : World) (hV : ViewAt w L st) :
    Calls Try.prog 10 #[.pointer (some ⟨L.v, 0, none⟩), .int .i64 i, .int .i64 off, .int .i64 n] w fun e w' => e = .returned (.string ByteArray.empty) ∧ ViewAt w' L (iSaw st i) ∧ Turn (· = L.r) w w' := by
  have lt := hV.lts
  have hz := zero_val
  rcases hc with h1 | ⟨h1, h2⟩ | ⟨h1, h2, h3⟩
  all_goals
    go_enter Try.func10, Try.ntmps10
    go_wp2_with fail
    refine (iget_any L st i _ hV).mono ?_; rintro e w1 ⟨rfl, hv1, t1⟩
    generalize hx : iVal st i = x at *
    go_wp2_with fail
    go_ret
    exact ⟨rfl, hv1.alloc _, t1.alloc _⟩

theorem wrap_small (z : Int) (h1 : 0 ≤ z) (h2 : z ≤ 281474976710656) : wrap64 z = z := by unfold wrap64; omega

theorem string_type : Try.prog.underlying 9 = some .string := by kernel_rfl

attribute [local irreducible] Int.lt Int.le
set_option maxRecDepth 20000 in
theorem iread_in (L : Lay) (st : VSt) (i off n : Int) (h1 : decide (off < 0) = false) (h2 : decide (((iVal st i).s.size : Int) ≤ off) = false) (h3 : decide (n < 1) = false) (hs : ((iVal st i).s.size : Int) ≤ 140737488351232) (w : World) (hV : ViewAt w L st) :
    Calls Try.prog 10 #[.pointer (some ⟨L.v, 0, none⟩), .int .i64 i, .int .i64 off, .int .i64 n] w fun e w' => e = .returned (.string ((iVal st i).s.extract off.toNat (off + min n ((iVal st i).s.size - off)).toNat)) ∧ ViewAt w' L (iSaw st i) ∧ Turn (· = L.r) w w' := by
  have lt := hV.lts
  have hz := zero_val
  have g1 : 0 ≤ off := by simpa using h1
  have g2 : off < ((iVal st i).s.size : Int) := by simpa using h2
  have g3 : 1 ≤ n := by simpa using h3
  have e1 : wrap64 (((iVal st i).s.size : Int) - off) = ((iVal st i).s.size : Int) - off := wrap_small _ (by omega) (by omega)
  by_cases hm : n ≤ ((iVal st i).s.size : Int) - off
  · have e2 : wrap64 (off + n) = off + n := wrap_small _ (by omega) (by omega)
    have hsl := fun (W : World) => run_slice_string (P := Try.prog) W 9 (iVal st i).s .i64 .i64 off (off + n) string_type g1 (by omega) (by omega)
    rw [show min n (((iVal st i).s.size : Int) - off) = n by omega]
    clear g1 g2 g3 hs
    go_enter Try.func10, Try.ntmps10
    go_wp2_with fail
    refine (iget_any L st i _ hV).mono ?_; rintro e w1 ⟨rfl, hv1, t1⟩
    generalize hx : iVal st i = x at *
    go_wp2_with fail
    go_ret
    exact ⟨by rw [hx]; rfl, hv1.alloc _, t1.alloc _⟩
  · have hm' : ((iVal st i).s.size : Int) - off < n := by omega
    have e2 : wrap64 (off + (((iVal st i).s.size : Int) - off)) = off + (((iVal st i).s.size : Int) - off) := wrap_small _ (by omega) (by omega)
    have hsl := fun (W : World) => run_slice_string (P := Try.prog) W 9 (iVal st i).s .i64 .i64 off (off + (((iVal st i).s.size : Int) - off)) string_type g1 (by omega) (by omega)
    rw [show min n (((iVal st i).s.size : Int) - off) = ((iVal st i).s.size : Int) - off by omega]
    clear g1 g2 g3 hs hm
    go_enter Try.func10, Try.ntmps10
    go_wp2_with fail
    refine (iget_any L st i _ hV).mono ?_; rintro e w1 ⟨rfl, hv1, t1⟩
    generalize hx : iVal st i = x at *
    go_wp2_with fail
    go_ret
    exact ⟨by rw [hx]; rfl, hv1.alloc _, t1.alloc _⟩

def iRead (st : VSt) (i off n : Int) : ByteArray :=
  if off < 0 ∨ ((iVal st i).s.size : Int) ≤ off ∨ n < 1 then ByteArray.empty else (iVal st i).s.extract off.toNat (off + min n ((iVal st i).s.size - off)).toNat

theorem iread_any (L : Lay) (st : VSt) (i off n : Int) (hs : ((iVal st i).s.size : Int) ≤ 140737488351232) (w : World) (hV : ViewAt w L st) :
    Calls Try.prog 10 #[.pointer (some ⟨L.v, 0, none⟩), .int .i64 i, .int .i64 off, .int .i64 n] w fun e w' => e = .returned (.string (iRead st i off n)) ∧ ViewAt w' L (iSaw st i) ∧ Turn (· = L.r) w w' := by
  unfold iRead
  by_cases a1 : off < 0
  · rw [if_pos (Or.inl a1)]; exact iread_out L st i off n (Or.inl (decide_eq_true a1)) w hV
  · by_cases a2 : ((iVal st i).s.size : Int) ≤ off
    · rw [if_pos (Or.inr (Or.inl a2))]; exact iread_out L st i off n (Or.inr (Or.inl ⟨decide_eq_false a1, decide_eq_true a2⟩)) w hV
    · by_cases a3 : n < 1
      · rw [if_pos (Or.inr (Or.inr a3))]; exact iread_out L st i off n (Or.inr (Or.inr ⟨decide_eq_false a1, decide_eq_false a2, decide_eq_true a3⟩)) w hV
      · rw [if_neg (by rintro (q | q | q) <;> contradiction)]; exact iread_in L st i off n (decide_eq_false a1) (decide_eq_false a2) (decide_eq_false a3) hs w hV
end Go.Proofs.Ytfcgkjbifnhjjaa.St
