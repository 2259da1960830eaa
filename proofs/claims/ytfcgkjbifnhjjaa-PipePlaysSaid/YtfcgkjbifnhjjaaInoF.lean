/- The contract of inode.Write over a view in memory. No condition but those written in each statement. -/
import Derived.Test.YtfcgkjbifnhjjaaInoE
namespace Go.Proofs.Ytfcgkjbifnhjjaa.St
open Go.RowKit
set_option linter.unusedVariables false

attribute [local go_sem] blk_alloc_at blk_alloc_past blk_drew blk_drewN blk_setB_same blk_setB_other blk_setRow_other setRow_alloc_at setRow_alloc_past setRow_drewN setRow_drew setB_size setB_cell setB_frozen setB_alloc_past setB_drewN setB_drew run_loadV loadOr_cells run_storeV storeOr_cells cells_size ones_cells cells_0 cells_1 cells_2 cells_16 cells_g0 cells_g1 cells_g2 cells_g16 cells_set0 cells_set1 cells_set2 cells_text
attribute [local go_sem ↓] execOp_loadV execOp_storeV
attribute [local go_sem ↓] wp_at0 wp_at1 wp_at2 wp_at3 wp_at4 wp_at5 wp_at6 wp_at7

theorem iwrite_no (L : Lay) (st : VSt) (i off : Int) (d : ByteArray) (hc : iHas st i = false ∨ iHas st i = true ∧ decide (off < 0) = true ∨ iHas st i = true ∧ decide (off < 0) = false ∧ decide (128 < off) = true ∨ iHas st i = true ∧ decide (off < 0) = false ∧ decide (128 < off) = false ∧ decide (((iVal st i).s.size : Int) < off) = true) (w : World) (hV : ViewAt w L st) :
    Calls Try.prog 14 #[.pointer (some ⟨L.v, 0, none⟩), .int .i64 i, .int .i64 off, .string d] w fun e w' => e = .returned (.int .i64 (-1)) ∧ ViewAt w' L (iSaw st i) ∧ Turn (· = L.r) w w' := by
  have lt := hV.lts
  have hz := zero_val
  rcases hc with h1 | ⟨h1, h2⟩ | ⟨h1, h2, h3⟩ | ⟨h1, h2, h3, h4⟩
  all_goals
    go_enter Try.func14, Try.ntmps14
    go_wp2_with fail
    refine (iget_any L st i _ hV).mono ?_; rintro e w1 ⟨rfl, hv1, t1⟩
    generalize hx : iVal st i = x at *
    go_wp2_with fail
    go_ret
    exact ⟨rfl, hv1.alloc _, t1.alloc _⟩

/-- As much of a text as is taken at an offset. -/
def iPart (d : ByteArray) (off : Int) : ByteArray := d.extract 0 (min (d.size : Int) (128 - off)).toNat
/-- A text with another written over it at an offset. -/
def iOver (s : ByteArray) (off : Int) (D : ByteArray) : ByteArray := s.extract 0 off.toNat ++ D ++ s.extract (min (s.size : Int) (off + D.size)).toNat s.size

theorem part_all (d : ByteArray) (off : Int) (c : (d.size : Int) ≤ 128 - off) : iPart d off = d := by
  unfold iPart
  rw [show (min (d.size : Int) (128 - off)).toNat = d.size by omega, ByteArray.extract_zero_size]
theorem part_some (d : ByteArray) (off : Int) (c : 128 - off < (d.size : Int)) : iPart d off = d.extract 0 (128 - off).toNat := by
  unfold iPart
  rw [show (min (d.size : Int) (128 - off)) = 128 - off by omega]
theorem part_size (d : ByteArray) (off : Int) (h : 0 ≤ 128 - off) : ((iPart d off).size : Int) = min (d.size : Int) (128 - off) := by
  unfold iPart; rw [ByteArray.size_extract]; omega
theorem over_mid (s D : ByteArray) (off : Int) (h : off + D.size < (s.size : Int)) : iOver s off D = s.extract 0 off.toNat ++ D ++ s.extract (off + D.size).toNat s.size := by
  unfold iOver; rw [show min (s.size : Int) (off + D.size) = off + D.size by omega]
theorem over_end (s D : ByteArray) (off : Int) (h : (s.size : Int) ≤ off + D.size) : iOver s off D = s.extract 0 off.toNat ++ D := by
  unfold iOver
  rw [show (min (s.size : Int) (off + D.size)).toNat = s.size by omega]
  have : s.extract s.size s.size = ByteArray.empty := by
    apply ByteArray.ext; simp
  rw [this, ByteArray.append_empty]

theorem over1 (s d : ByteArray) (off : Int) (c : (d.size : Int) ≤ 128 - off) (h : off + d.size < (s.size : Int)) : s.extract 0 off.toNat ++ d ++ s.extract (off + d.size).toNat s.size = iOver s off (iPart d off) := by
  rw [part_all d off c, over_mid _ _ _ h]
theorem over2 (s d : ByteArray) (off : Int) (c : (d.size : Int) ≤ 128 - off) (h : (s.size : Int) ≤ off + d.size) : s.extract 0 off.toNat ++ d = iOver s off (iPart d off) := by
  rw [part_all d off c, over_end _ _ _ h]
theorem over3 (s d : ByteArray) (off : Int) (c : 128 - off < (d.size : Int)) (g : off ≤ 128) (h : off + (min (128 - off).toNat d.size : Nat) < (s.size : Int)) :
    s.extract 0 off.toNat ++ d.extract 0 (128 - off).toNat ++ s.extract (off + (min (128 - off).toNat d.size : Nat)).toNat s.size = iOver s off (iPart d off) := by
  have hp := part_size d off (by omega)
  rw [over_mid _ _ _ (by omega), part_some d off c]
  rw [part_some d off c] at hp
  rw [hp, show ((min (128 - off).toNat d.size : Nat) : Int) = min (d.size : Int) (128 - off) by omega]
theorem over4 (s d : ByteArray) (off : Int) (c : 128 - off < (d.size : Int)) (g : off ≤ 128) (h : (s.size : Int) ≤ off + (min (128 - off).toNat d.size : Nat)) :
    s.extract 0 off.toNat ++ d.extract 0 (128 - off).toNat = iOver s off (iPart d off) := by
  have hp := part_size d off (by omega)
  rw [over_end _ _ _ (by omega), part_some d off c]

attribute [local irreducible] Int.lt Int.le
set_option maxRecDepth 20000 in
theorem iwrite_yes (L : Lay) (st : VSt) (i off : Int) (d : ByteArray) (hh : iHas st i = true) (h2 : decide (off < 0) = false) (h3 : decide (128 < off) = false) (h4 : decide (((iVal st i).s.size : Int) < off) = false)
    (hs : ((iVal st i).s.size : Int) ≤ 140737488351232) (hd : (d.size : Int) ≤ 140737488351232) (w : World) (hV : ViewAt w L st) :
    Calls Try.prog 14 #[.pointer (some ⟨L.v, 0, none⟩), .int .i64 i, .int .i64 off, .string d] w fun e w' => e = .returned (.int .i64 (iPart d off).size) ∧
      ViewAt w' L ((iSaw st i).put 10 i ((iVal st i).text (iOver (iVal st i).s off (iPart d off)))) ∧ Turn (fun k => k = L.r ∨ k = L.m) w w' := by
  have lt := hV.lts
  have hz := zero_val
  have g2 : 0 ≤ off := by simpa using h2
  have g3 : off ≤ 128 := by simpa using h3
  have g4 : off ≤ ((iVal st i).s.size : Int) := by simpa using h4
  have e1 : wrap64 (128 - off) = 128 - off := wrap_small _ (by omega) (by omega)
  have hm1 : (d.size : Int) ≤ 128 - off ∨ 128 - off < (d.size : Int) := by omega
  rcases hm1 with c1 | c1
  all_goals
    go_enter Try.func14, Try.ntmps14
    go_wp2_with fail
    refine (iget_any L st i _ hV).mono ?_; rintro e w1 ⟨rfl, hv1, t1⟩
    generalize hx : iVal st i = x at *
    go_wp2_with fail
    all_goals
      go_region
      go_wp2_with fail
      first
        | rw [over1 x.s d off c1 (by assumption)]
        | rw [over2 x.s d off c1 (by assumption)]
        | rw [over3 x.s d off c1 g3 (by assumption)]
        | rw [over4 x.s d off c1 g3 (by assumption)]
      have hsz : ((iPart d off).size : Int) = (min (d.size : Int) (128 - off)) := part_size d off (by omega)
      generalize hy : x.text (iOver x.s off (iPart d off)) = y at *
      have b2 : blk (w1.alloc (Obj.cells y.cells 47)).drew w1.heap.size = some (.cells y.cells 47 (0, 0)) := by rw [blk_drew]; exact blk_alloc_at _ _ _ rfl
      have hv2 := (hv1.alloc (Obj.cells y.cells 47)).drew
      have t2 := (t1.alloc (Obj.cells y.cells 47)).drew
      clear hs hd h2 h3 h4 g4
      generalize (w1.alloc (Obj.cells y.cells 47)).drew = W2 at *
      generalize w1.heap.size = B at *
      obtain ⟨bd, vd, sd⟩ := at_drew b2 hv2
      go_region_with (first
        | (go_at_call 45; refine (ikey_any i _).mono ?_; rintro e w8 ⟨rfl, t8⟩; have b8 := blk_below t8 bd sd; have v8 := vd.below t8; have r8 := t8.size)
        | (go_at_call 44; refine (vput_any L (iSaw st i) 10 i y _ (by assumption)).mono ?_; rintro e w9 ⟨rfl, hv9, t9⟩))
      all_goals
        clear b2 hv2 bd vd b8 v8
        go_wp2_with fail
        go_ret
        refine ⟨ret_int ?_, by rw [hx, hy]; exact hv9, ((t2.mono fun _ _ => Or.inl).drew.trans (Turn.of_below t8 _)).trans (t9.mono fun _ _ => Or.inr)⟩
        omega

/-- May something be written there? -/
def iMay (st : VSt) (i off : Int) : Prop := iHas st i = true ∧ 0 ≤ off ∧ off ≤ 128 ∧ off ≤ ((iVal st i).s.size : Int)
instance (st : VSt) (i off : Int) : Decidable (iMay st i off) := by unfold iMay; exact inferInstance
def iWrite (st : VSt) (i off : Int) (d : ByteArray) : VSt := if iMay st i off then (iSaw st i).put 10 i ((iVal st i).text (iOver (iVal st i).s off (iPart d off))) else iSaw st i
def iWrote (st : VSt) (i off : Int) (d : ByteArray) : Int := if iMay st i off then ((iPart d off).size : Int) else -1

theorem iwrite_any (L : Lay) (st : VSt) (i off : Int) (d : ByteArray) (hs : ((iVal st i).s.size : Int) ≤ 140737488351232) (hd : (d.size : Int) ≤ 140737488351232) (w : World) (hV : ViewAt w L st) :
    Calls Try.prog 14 #[.pointer (some ⟨L.v, 0, none⟩), .int .i64 i, .int .i64 off, .string d] w fun e w' => e = .returned (.int .i64 (iWrote st i off d)) ∧ ViewAt w' L (iWrite st i off d) ∧ Turn (fun k => k = L.r ∨ k = L.m) w w' := by
  unfold iWrite iWrote
  by_cases h : iMay st i off
  · rw [if_pos h, if_pos h]
    obtain ⟨a1, a2, a3, a4⟩ := h
    exact iwrite_yes L st i off d a1 (decide_eq_false (by omega)) (decide_eq_false (by omega)) (decide_eq_false (by omega)) hs hd w hV
  · rw [if_neg h, if_neg h]
    refine (iwrite_no L st i off d ?_ w hV).mono fun e w' ⟨a, b, c⟩ => ⟨a, b, c.mono fun _ _ => Or.inl⟩
    cases a1 : iHas st i with
    | false => exact Or.inl rfl
    | true =>
      refine Or.inr ?_
      by_cases a2 : off < 0
      · exact Or.inl ⟨rfl, decide_eq_true a2⟩
      · by_cases a3 : 128 < off
        · exact Or.inr (Or.inl ⟨rfl, decide_eq_false a2, decide_eq_true a3⟩)
        · exact Or.inr (Or.inr ⟨rfl, decide_eq_false a2, decide_eq_false a3, decide_eq_true (by
            apply Decidable.byContradiction; intro a4
            exact h ⟨a1, by omega, by omega, by omega⟩)⟩)
end Go.Proofs.Ytfcgkjbifnhjjaa.St
