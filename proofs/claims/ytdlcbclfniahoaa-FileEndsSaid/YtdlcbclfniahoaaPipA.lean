/- The contracts of package pipe: key, table, Is, mark, over a view in memory. No condition but those written in each statement. -/
import Derived.Test.YtdlcbclfniahoaaInoD
import Derived.Deep.RegionWith
namespace Go.Proofs.Ytdlcbclfniahoaa.St
open Go.RowKit
set_option linter.unusedVariables false

attribute [local go_sem] blk_alloc_at blk_alloc_past blk_drew blk_drewN blk_setB_same blk_setB_other blk_setRow_other setRow_alloc_at setRow_alloc_past setRow_drewN setRow_drew setB_size setB_cell setB_frozen setB_alloc_past setB_drewN setB_drew run_loadV loadOr_cells run_storeV storeOr_cells cells_size ones_cells cells_0 cells_1 cells_2 cells_16 cells_g0 cells_g1 cells_g2 cells_g16 cells_set0 cells_set1 cells_set2 cells_text
attribute [local go_sem ↓] execOp_loadV execOp_storeV
attribute [local go_sem ↓] wp_at0 wp_at1 wp_at2 wp_at3 wp_at4 wp_at5 wp_at6 wp_at7

theorem pkey_any (i : Int) (w : World) :
    Calls Try.prog 47 #[.int .i64 i] w fun e w' => e = .returned (keyV 8 i) ∧ Below w.heap.size w w' := by
  go_enter Try.func47, Try.ntmps47
  go_wp2_with fail
  exact bodyPost_key (b := w.heap.size) rfl rfl rfl (heap_alloc_new _ _) rfl ⟨rfl, (Below.refl _ _).alloc (Nat.le_refl _) _⟩

theorem ptable_any (w : World) :
    Calls Try.prog 45 #[] w fun e w' => e = .returned (keyV 7 0) ∧ Below w.heap.size w w' := by
  go_enter Try.func45, Try.ntmps45
  go_wp2_with fail
  exact bodyPost_key (b := w.heap.size) rfl rfl rfl (heap_alloc_new _ _) rfl ⟨rfl, (Below.refl _ _).alloc (Nat.le_refl _) _⟩

/-- The sixteen numbers of a value, as an array. -/
def Val.row (x : Val) : Array Value := #[.int .i64 (x.n 0), .int .i64 (x.n 1), .int .i64 (x.n 2), .int .i64 (x.n 3), .int .i64 (x.n 4), .int .i64 (x.n 5), .int .i64 (x.n 6), .int .i64 (x.n 7), .int .i64 (x.n 8), .int .i64 (x.n 9), .int .i64 (x.n 10), .int .i64 (x.n 11), .int .i64 (x.n 12), .int .i64 (x.n 13), .int .i64 (x.n 14), .int .i64 (x.n 15)]
theorem run_fieldN (x : Val) (W : World) : (Instr.field 58 (.agg x.cells) 0).run Try.prog W = .ok (.agg x.row) W := by kernel_rfl
theorem run_indexN (x : Val) (W : World) : (Instr.index 56 (.agg x.row) (.int .i64 0)).run Try.prog W = .ok (.int .i64 (x.n 0)) W := by kernel_rfl
attribute [local go_sem] run_fieldN run_indexN

/-- Is there such a pipe; what was read to know it. -/
def pHas (st : VSt) (q : Int) : Bool := if q < 0 ∨ 4 ≤ q then false else usedI ((st.get 7 0).n 0) q.toNat
def pSaw (st : VSt) (q : Int) : VSt := if q < 0 ∨ 4 ≤ q then st else st.saw 7 0

theorem pis_out (L : Lay) (st : VSt) (q : Int) (h : decide (0 ≤ q) = false ∨ decide (0 ≤ q) = true ∧ decide (q < 4) = false) (w : World) (hV : ViewAt w L st) :
    Calls Try.prog 23 #[.pointer (some ⟨L.v, 0, none⟩), .int .i64 q] w fun e w' => e = .returned (.bool false) ∧ ViewAt w' L st ∧ Turn (· = L.r) w w' := by
  rcases h with h | ⟨h1, h2⟩
  all_goals
    go_enter Try.func23, Try.ntmps23
    go_wp2_with fail
    go_ret
    exact ⟨rfl, hV, Turn.refl _ _⟩

theorem usedI_def (x : Int) (j : Nat) : (bits BinOp.and IntKind.i64 (x / 2 ^ j) 1 == 1) = usedI x j := by rw [usedI]
theorem usedI_dec (x : Int) (j : Nat) : decide (bits BinOp.and IntKind.i64 (x / 2 ^ j) 1 = 1) = usedI x j := by
  unfold usedI
  by_cases h : bits BinOp.and IntKind.i64 (x / 2 ^ j) 1 = 1
  · rw [h]; rfl
  · rw [decide_eq_false h]; symm; simpa using h

attribute [local irreducible] Int.lt Int.le
set_option maxRecDepth 20000 in
theorem pis_in (L : Lay) (st : VSt) (j : Nat) (h1 : j < 4) (w : World) (hV : ViewAt w L st) :
    Calls Try.prog 23 #[.pointer (some ⟨L.v, 0, none⟩), .int .i64 j] w fun e w' => e = .returned (.bool (usedI ((st.get 7 0).n 0) j)) ∧ ViewAt w' L (st.saw 7 0) ∧ Turn (· = L.r) w w' := by
  have g1 : (0 : Int) ≤ (j : Int) := by omega
  have g2 : (j : Int) < 4 := by omega
  go_enter Try.func23, Try.ntmps23
  go_wp2_with fail
  refine (ptable_any _).mono ?_; rintro e w1 ⟨rfl, t1⟩
  have hv1 := hV.below t1
  go_wp2_with fail
  refine (vget_any L st 7 0 _ hv1).mono ?_; rintro e w2 ⟨rfl, hv2, t2⟩
  generalize hx : st.get 7 0 = x at *
  go_wp2_with fail
  go_ret
  exact ⟨by rw [hx, ← usedI_def]; rfl, hv2, (Turn.of_below t1 _).trans t2⟩

theorem pis_any (L : Lay) (st : VSt) (q : Int) (w : World) (hV : ViewAt w L st) :
    Calls Try.prog 23 #[.pointer (some ⟨L.v, 0, none⟩), .int .i64 q] w fun e w' => e = .returned (.bool (pHas st q)) ∧ ViewAt w' L (pSaw st q) ∧ Turn (· = L.r) w w' := by
  unfold pHas pSaw
  by_cases h : q < 0 ∨ 4 ≤ q
  · rw [if_pos h, if_pos h]
    refine pis_out L st q ?_ w hV
    by_cases h0 : 0 ≤ q
    · exact Or.inr ⟨decide_eq_true h0, decide_eq_false (by omega)⟩
    · exact Or.inl (decide_eq_false h0)
  · rw [if_neg h, if_neg h]
    obtain ⟨j, rfl⟩ := Int.eq_ofNat_of_zero_le (show 0 ≤ q by omega)
    exact pis_in L st j (by omega) w hV

/-- A pipe's mark in the table. -/
def unmarkN (x : Int) (j : Nat) : Int := bits BinOp.andNot IntKind.i64 x (wrap64 (2 ^ j))
theorem unmarkN_def (x : Int) (j : Nat) : bits BinOp.andNot IntKind.i64 x (wrap64 (2 ^ j)) = unmarkN x j := by rw [unmarkN]
def pMarkI (x : Int) (j : Nat) (on : Bool) : Int := if on then markI (unmarkN x j) j else unmarkN x j
def pMark (st : VSt) (j : Nat) (on : Bool) : VSt := (st.saw 7 0).put 7 0 ((st.get 7 0).set 0 (pMarkI ((st.get 7 0).n 0) j on))

theorem set0_set0 (x : Val) (a b : Int) : (x.set 0 a).set 0 b = x.set 0 b := by
  unfold Val.set; congr 1; funext i; by_cases h : i = 0 <;> simp [h]
theorem set0_n0 (x : Val) (a : Int) : (x.set 0 a).n 0 = a := by simp [Val.set]

end Go.Proofs.Ytdlcbclfniahoaa.St
