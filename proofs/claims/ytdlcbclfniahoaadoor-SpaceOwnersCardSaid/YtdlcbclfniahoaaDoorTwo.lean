/- The contracts of cloisterkeep.New of no writes, and of Two.Look: a store and a view that hold nothing. No condition but those written in each statement. -/
import Derived.Test.YtdlcbclfniahoaaDoorNew
import Derived.Deep.RegionWith
namespace Go.Proofs.YtdlcbclfniahoaaDoor.St
open Go.RowKit
set_option linter.unusedVariables false

attribute [local go_sem] blk_alloc_at blk_alloc_past blk_drew blk_drewN blk_setB_same blk_setB_other blk_setRow_other setRow_alloc_at setRow_alloc_past setRow_drewN setRow_drew setB_size setB_cell setB_frozen setB_alloc_past setB_drewN setB_drew
attribute [local go_sem ↓] wp_at0 wp_at1 wp_at2 wp_at3 wp_at4 wp_at5 wp_at6 wp_at7 wp_at8 wp_at9 wp_at10 wp_at11 wp_at12 wp_at13 wp_at14 wp_at15 wp_at16 wp_at17

theorem rstore_any (w : World) :
    Calls Tryd.prog 31 #[] w fun e w' => e = .returned (.pointer (some ⟨w.heap.size + 1, 0, none⟩)) ∧ w' = ((w.alloc (Obj.map #[] 0)).alloc (Obj.cells #[Value.map (some w.heap.size)] 102)) := by
  have hmm := @run_makeMap Tryd.prog
  go_enter Tryd.func31, Tryd.ntmps31
  go_wp2_with fail
  go_ret
  exact ⟨rfl, rfl⟩

theorem rview_any (d : Nat) (w : World) :
    Calls Tryd.prog 49 #[.pointer (some ⟨d, 0, none⟩)] w fun e w' => e = .returned (.pointer (some ⟨w.heap.size + 1 + 1, 0, none⟩)) ∧
      w' = (((w.alloc (Obj.map #[] 0)).alloc (Obj.map #[] 0)).alloc (Obj.cells #[Value.pointer (some { block := d, off := 0 }), Value.map (some w.heap.size), Value.map (some (w.heap.size + 1))] 114)) := by
  have hmm := @run_makeMap Tryd.prog
  go_enter Tryd.func49, Tryd.ntmps49
  go_wp2_with fail
  go_ret
  exact ⟨rfl, rfl⟩

/-- A document's view that has read and written nothing. -/
def RNew (W : World) (q d B : Nat) : Prop := ∃ r m, blk W q = some (.cells #[.pointer (some ⟨d, 0, none⟩), .map (some r), .map (some m)] 114 (0, 0)) ∧ blk W r = some (.map #[] 0) ∧ blk W m = some (.map #[] 0) ∧ B ≤ q ∧ B ≤ r ∧ B ≤ m ∧ r ≠ m

theorem rview_new (d : Nat) (w : World) :
    Calls Tryd.prog 49 #[.pointer (some ⟨d, 0, none⟩)] w fun e w' => ∃ q, e = .returned (.pointer (some ⟨q, 0, none⟩)) ∧ RNew w' q d w.heap.size ∧ Below w.heap.size w w' ∧ q < w'.heap.size := by
  refine (rview_any d w).mono ?_
  rintro e w' ⟨rfl, rfl⟩
  refine ⟨_, rfl, ⟨w.heap.size, w.heap.size + 1, blk_alloc_at _ _ _ (by simp), ?_, ?_, by omega, Nat.le_refl _, by omega, by omega⟩, (((Below.refl _ _).alloc (Nat.le_refl _) _).alloc (by simp) _).alloc (by simp; omega) _, by simp⟩
  · rw [blk_alloc_past _ _ _ (by simp; omega), blk_alloc_past _ _ _ (by simp), blk_alloc_at _ _ _ rfl]
  · rw [blk_alloc_past _ _ _ (by simp), blk_alloc_at _ _ _ (by simp)]

/-- The two stores with their views. -/
def TwoAt (W : World) (t s v d q : Nat) : Prop := blk W t = some (.cells #[.pointer (some ⟨s, 0, none⟩), .pointer (some ⟨v, 0, none⟩), .pointer (some ⟨d, 0, none⟩), .pointer (some ⟨q, 0, none⟩)] 29 (0, 0))

set_option maxRecDepth 100000 in
theorem tlook_any (t s l d : Nat) (v0 q0 : Value) (base : Nat → Val) (w : World) (hS : StoreAt w s l base) (hT : blk w t = some (.cells #[.pointer (some ⟨s, 0, none⟩), v0, .pointer (some ⟨d, 0, none⟩), q0] 29 (0, 0))) (hts : t ≠ s) (htl : t ≠ l) :
    Calls Tryd.prog 34 #[.pointer (some ⟨t, 0, none⟩)] w fun e w' => ∃ L : Lay, ∃ q, L.s = s ∧ L.l = l ∧ e = .returned (.tuple #[]) ∧ TwoAt w' t s L.v d q ∧ ViewAt w' L (VSt.fresh base) ∧ RNew w' q d w.heap.size ∧ Turn (· = t) w w' ∧ w.heap.size ≤ L.v ∧ w.heap.size ≤ L.r ∧ w.heap.size ≤ L.m := by
  have c0 := cell_of_row w t 0 _ _ _ hT
  have c2 := cell_of_row w t 2 _ _ _ hT
  simp at c0 c2
  have lt := blk_lt hT
  have hTd : blk w.drew t = _ := (blk_drew w t).trans hT
  have hSd : StoreAt w.drew s l base := hS.keep (S := fun _ => False) (Turn.refl _ _).drew (fun q => q) (fun q => q)
  have ltd : t < w.drew.heap.size := lt
  go_enter Tryd.func34, Tryd.ntmps34
  go_wp2_with fail
  go_region_with (first
    | (go_at_call 48; refine (look_any s l base _ hSd).mono ?_; rintro e w1 ⟨L, rfl, rfl, rfl, hv1, t1, gv, gr, gm⟩; have hT1 := blk_below t1 hTd ltd; have lt1 := blk_lt hT1; have d0 := cell_of_row w1 t 0 _ _ _ hT1; have d1 := cell_of_row w1 t 1 _ _ _ hT1; have d2 := cell_of_row w1 t 2 _ _ _ hT1; have d3 := cell_of_row w1 t 3 _ _ _ hT1; simp at d0 d1 d2 d3)
    | (go_at_call 49; refine (rview_new d _).mono ?_; rintro e w2 ⟨q, rfl, hq, t2, gq⟩; have hT2 := blk_below t2 hT1 lt1; have hv2 := hv1.below t2; have lt2 := blk_lt hT2; have e0 := cell_of_row w2 t 0 _ _ _ hT2; have e1 := cell_of_row w2 t 1 _ _ _ hT2; have e2 := cell_of_row w2 t 2 _ _ _ hT2; have e3 := cell_of_row w2 t 3 _ _ _ hT2; simp at e0 e1 e2 e3; have f2 := frozen_blk hT2))
  all_goals
    go_wp2_with fail
    go_end0
    have b1 := blk_setCell_same hT2 1 (Value.pointer (some ⟨L.v, 0, none⟩))
    have b2 := blk_setCell_same b1 3 (Value.pointer (some ⟨q, 0, none⟩))
    have z1 := t1.size
    have z2 := t2.size
    have z0 : w.drew.heap.size = w.heap.size := rfl
    have tt : Turn (· = t) w2 ((w2.setCell ⟨t, 1, none⟩ (Value.pointer (some ⟨L.v, 0, none⟩))).setCell ⟨t, 3, none⟩ (Value.pointer (some ⟨q, 0, none⟩))) :=
      ((Turn.refl (· = t) w2).setCell (p := ⟨t, 1, none⟩) (Or.inl (show t = t from rfl)) _).setCell (p := ⟨t, 3, none⟩) (Or.inl (show t = t from rfl)) _
    have tw : Turn (· = t) w w2 := ((Turn.refl _ _).drew.trans (Turn.of_below t1 _)).trans (Turn.of_below t2 _)
    refine ⟨L, q, rfl, rfl, rfl, b2, hv2.keep tt ?_, ?_, tw.trans tt, by omega, by omega, by omega⟩
    · rintro i rfl
      exact ⟨by omega, hts, htl, by omega, by omega⟩
    · obtain ⟨r, m, h1, h2, h3, h4, h5, h6, h7⟩ := hq
      exact ⟨r, m, blk_of_turn tt h1 (by omega), blk_of_turn tt h2 (by omega), blk_of_turn tt h3 (by omega), by omega, by omega, by omega, h7⟩

set_option maxRecDepth 100000 in
theorem tnew_nil (w : World) :
    Calls Tryd.prog 18 #[.slice none 0 0] w fun e w' => ∃ t d q, ∃ L : Lay, e = .returned (.pointer (some ⟨t, 0, none⟩)) ∧ TwoAt w' t L.s L.v d q ∧ ViewAt w' L (VSt.fresh fun _ => Val.zero) ∧ RNew w' q d w.heap.size ∧ Below w.heap.size w w' ∧
      w.heap.size ≤ t ∧ w.heap.size ≤ d ∧ w.heap.size ≤ L.v ∧ w.heap.size ≤ L.s ∧ w.heap.size ≤ L.l ∧ w.heap.size ≤ L.r ∧ w.heap.size ≤ L.m := by
  go_enter Tryd.func18, Tryd.ntmps18
  go_wp2_with fail
  refine (new_any _).mono ?_; rintro e w1 ⟨s, l, rfl, hS, t1, gs, gl⟩
  go_wp2_with fail
  refine (rstore_any _).mono ?_; rintro e w2 ⟨rfl, rfl⟩
  go_wp2_with fail
  have z1 := t1.size
  have lw := lt_of_heap hS.cs
  obtain ⟨cl0, hcl, _⟩ := hS.cl
  have ll := lt_of_heap hcl
  have hS3 := hS.keep (Turn.of_below (((Below.refl _ w1).alloc (Nat.le_refl _) (Obj.map #[] 0)).alloc (by simp) (Obj.cells #[Value.map (some w1.heap.size)] 102)) (fun _ => False)) (fun q => q) (fun q => q)
  have hS4 := hS3.keep (Turn.of_below ((Below.refl _ _).alloc (Nat.le_refl _) (Obj.cells #[Value.pointer (some ⟨s, 0, none⟩), .pointer none, .pointer (some ⟨w1.heap.size + 1, 0, none⟩), .pointer none] 29)) (fun _ => False)) (fun q => q) (fun q => q)
  go_loop [4] (fun i => i = .int .i64 0) (fun _ => 0)
  case atStart => rfl
  case round =>
    obtain rfl := hrel
    go_wp2_with fail
    refine (tlook_any (w1.heap.size + 1 + 1) s l (w1.heap.size + 1) (.pointer none) (.pointer none) _ _ hS4 (blk_alloc_at _ _ _ (by simp)) (by omega) (by omega)).mono ?_
    rintro e w3 ⟨L, q, rfl, rfl, rfl, hT3, hv3, hq3, t3, gv, gr, gm⟩
    have d1 := cell_of_row w3 _ 1 _ _ _ hT3
    simp at d1
    have zz : w1.heap.size + 1 + 1 + 1 = (((w1.alloc (Obj.map #[] 0)).alloc (Obj.cells #[Value.map (some w1.heap.size)] 102)).alloc (Obj.cells #[Value.pointer (some ⟨L.s, 0, none⟩), .pointer none, .pointer (some ⟨w1.heap.size + 1, 0, none⟩), .pointer none] 29)).heap.size := by simp
    have tb : Below w.heap.size w w3 := by
      refine t1.trans ((((((Below.refl _ w1).alloc z1 _).alloc (by simp; omega) _).alloc (by simp; omega) _)).trans ((t3.below (B := w1.heap.size) (by rw [← zz]; omega) (fun i q => by have : i = w1.heap.size + 1 + 1 := q; omega)).mono z1))
    clear hS3 hS4 hcl
    go_wp2_with fail
    go_ret
    obtain ⟨r, m, h1, h2, h3, h4, h5, h6, h7⟩ := hq3
    exact ⟨_, _, q, L, rfl, hT3, hv3, ⟨r, m, h1, h2, h3, by omega, by omega, by omega, h7⟩, tb, by omega, by omega, by omega, by omega, by omega, by omega, by omega⟩
end Go.Proofs.YtdlcbclfniahoaaDoor.St
