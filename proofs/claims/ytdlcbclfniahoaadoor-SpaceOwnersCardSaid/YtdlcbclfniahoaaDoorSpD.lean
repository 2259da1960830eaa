/- The contract of space.Back. No condition but those written in each statement. -/
import Derived.Test.YtdlcbclfniahoaaDoorSpC
namespace Go.Proofs.YtdlcbclfniahoaaDoor.St
open Go.RowKit
set_option linter.unusedVariables false

/-- A page that comes back; some pages. -/
def bk1 (y : Val) (g : Int) : Val := if g < 0 ∨ 64 ≤ g then y else if usedI (y.n 1) g.toNat = false then y else (y.set 1 (unmarkN (y.n 1) g.toNat)).set 0 (markI (y.n 0) g.toNat)
def bkV (y : Val) (l : List Int) : Val := l.foldl bk1 y
theorem bkV_snoc (y : Val) (l : List Int) (g : Int) : bkV y (l ++ [g]) = bk1 (bkV y l) g := by unfold bkV; rw [List.foldl_append]; rfl
/-- A slice of numbers. -/
def NR (W : World) (a : Option Addr) (zs : List Int) : Prop := ∀ i (h : i < zs.length), ∃ x, a = some x ∧ W.cell? (x.add i) = some (.int .i64 zs[i])
theorem NR.turn {W W' : World} {L : Lay} {st : VSt} {a : Option Addr} {zs : List Int} (h : NR W a zs) (hV : ViewAt W L st) (hm : Turn (· = L.r) W W') : NR W' a zs := fun i hi => by
  obtain ⟨x, e, c⟩ := h i hi
  have hlt := World.block_lt_of_cell? _ _ c
  obtain ⟨_, _, hr, _⟩ := hV.cr
  have hne : ¬((x.add i).block = L.r) := by
    intro q
    unfold World.cell? at c; rw [q, hr] at c; simp at c
  refine ⟨x, e, ?_⟩
  rw [World.cell?_of_block (hm.block (x.add i).block (by simpa using hlt) hne)]
  exact c
theorem NR.below {W W' : World} {a : Option Addr} {zs : List Int} (h : NR W a zs) (hb : Below W.heap.size W W') : NR W' a zs := fun i hi => by
  obtain ⟨x, e, c⟩ := h i hi
  exact ⟨x, e, (hb.cell (World.block_lt_of_cell? _ _ c)).trans c⟩

attribute [local go_sem] blk_alloc_at blk_alloc_past blk_drew blk_drewN blk_setB_same blk_setB_other blk_setRow_other setRow_alloc_at setRow_alloc_past setRow_drewN setRow_drew setB_size setB_cell setB_frozen setB_alloc_past setB_drewN setB_drew run_loadV loadOr_cells run_storeV storeOr_cells cells_size ones_cells cells_0 cells_1 cells_2 cells_16
attribute [local go_sem ↓] execOp_loadV execOp_storeV
attribute [local go_sem ↓] wp_at0 wp_at1 wp_at2 wp_at3 wp_at4 wp_at5 wp_at6 wp_at7
attribute [local irreducible] Int.lt Int.le
/-- What the loop over the pages holds. -/
structure BKN (w W : World) (L : Lay) (st : VSt) (y : Val) (B : Nat) (a : Option Addr) (zs : List Int) (j : Nat) : Prop where
  v : ViewAt W L st
  t : Turn (· = L.r) w W
  b : blk W B = some (.cells (bkV y (zs.take j)).cells 45 (0, 0))
  r : NR W a zs
theorem BKN.set {w W : World} {L : Lay} {st : VSt} {y : Val} {B : Nat} {a : Option Addr} {zs : List Int} {j : Nat} (H : BKN w W L st y B a zs j) (lt : L.v < w.heap.size ∧ L.s < w.heap.size ∧ L.l < w.heap.size ∧ L.r < w.heap.size ∧ L.m < w.heap.size) (hB : w.heap.size ≤ B) (hz : ∀ i (h : i < zs.length), ∀ x, a = some x → (x.add i).block < w.heap.size)
    (hj : j < zs.length) (g : Int) (hg : zs[j] = g) (g0 : ¬ (g < 0 ∨ 64 ≤ g)) (hu : usedI ((bkV y (zs.take j)).n 1) g.toNat = true) :
    BKN w ((W.setCell ⟨B, 1, none⟩ (.int .i64 (unmarkN ((bkV y (zs.take j)).n 1) g.toNat))).setCell ⟨B, 0, none⟩ (.int .i64 (markI ((bkV y (zs.take j)).n 0) g.toNat))) L st y B a zs (j + 1) := by
  have tl : Turn (fun k => w.heap.size ≤ k) W ((W.setCell ⟨B, 1, none⟩ (.int .i64 (unmarkN ((bkV y (zs.take j)).n 1) g.toNat))).setCell ⟨B, 0, none⟩ (.int .i64 (markI ((bkV y (zs.take j)).n 0) g.toNat))) :=
    ((Turn.refl _ _).setCell (p := ⟨B, 1, none⟩) (Or.inl hB) _).setCell (p := ⟨B, 0, none⟩) (Or.inl hB) _
  refine ⟨H.v.off tl lt, H.t.offS tl (Nat.le_refl _), ?_, fun i hi => ?_⟩
  · have h := blk_setCell_same (blk_setCell_same H.b 1 (.int .i64 (unmarkN ((bkV y (zs.take j)).n 1) g.toNat))) 0 (.int .i64 (markI ((bkV y (zs.take j)).n 0) g.toNat))
    rw [cells_set1, cells_set0] at h
    rw [h, List.take_succ_eq_append_getElem hj, bkV_snoc, hg]
    unfold bk1
    rw [if_neg g0, hu, if_neg (by decide)]
  · obtain ⟨x, e, c⟩ := H.r i hi
    have := hz i hi x e
    refine ⟨x, e, ?_⟩
    rw [World.cell?_setCell_other _ _ _ _ (fun q => by rw [← q] at this; simp at this; omega), World.cell?_setCell_other _ _ _ _ (fun q => by rw [← q] at this; simp at this; omega)]
    exact c
theorem BKN.stay {w W : World} {L : Lay} {st : VSt} {y : Val} {B : Nat} {a : Option Addr} {zs : List Int} {j : Nat} (H : BKN w W L st y B a zs j) (hj : j < zs.length) (g : Int) (hg : zs[j] = g) (h : bk1 (bkV y (zs.take j)) g = bkV y (zs.take j)) : BKN w W L st y B a zs (j + 1) :=
  ⟨H.v, H.t, by rw [List.take_succ_eq_append_getElem hj, bkV_snoc, hg, h]; exact H.b, H.r⟩
set_option maxRecDepth 100000 in
set_option maxHeartbeats 1000000 in
theorem sback_any (L : Lay) (st : VSt) (a : Option Addr) (cap : Nat) (zs : List Int) (hz : zs.length ≤ 1000) (w : World) (hV : ViewAt w L st) (hR : NR w a zs) :
    Calls Tryd.prog 12 #[.pointer (some ⟨L.v, 0, none⟩), .slice a zs.length cap] w fun e w' => e = .returned (.tuple #[]) ∧ ViewAt w' L ((st.saw 2 0).put 2 0 (bkV (st.get 2 0) zs)) ∧ Turn (fun k => k = L.r ∨ k = L.m) w w' := by
  have lt := hV.lts
  have hblk : ∀ i (h : i < zs.length), ∀ x, a = some x → (x.add i).block < w.heap.size := fun i h x e => by
    obtain ⟨x', e', c⟩ := hR i h
    rw [e] at e'; cases e'
    exact World.block_lt_of_cell? _ _ c
  obtain ⟨y, hy⟩ : ∃ y, y = st.get 2 0 := ⟨_, rfl⟩
  rw [← hy]
  have Hy := Lib.hid hy
  clear hy
  go_enter Tryd.func12, Tryd.ntmps12
  go_wp2_with fail
  refine (spool_any _).mono ?_; rintro e w1 ⟨rfl, t1⟩
  have hv1 := hV.below t1
  go_wp2_with fail
  refine (vget_any L st 2 0 _ hv1).mono ?_; rw [← Hy.out]; rintro e w2 ⟨rfl, hv2, t2⟩
  have R2 := (hR.below t1).turn hv1 t2
  have tt2 := (Turn.of_below t1 _).trans t2
  have I0 : BKN w (w2.alloc (Obj.cells y.cells 45)) L (st.saw 2 0) y w2.heap.size a zs 0 :=
    ⟨hv2.alloc _, tt2.alloc _, blk_alloc_at _ _ _ rfl, R2.below ((Below.refl _ _).alloc (Nat.le_refl _) _)⟩
  have hB := tt2.size
  go_upto_region 2 with fail
  clear hv1 hv2 t1 t2 R2 tt2 hV hR Hy
  generalize w2.alloc (Obj.cells y.cells 45) = W3 at *
  generalize w2.heap.size = B at *
  go_loopw [12] (fun i wr => ∃ j : Nat, j ≤ zs.length ∧ i = .int .i64 (j : Int) ∧ BKN w wr L (st.saw 2 0) y B a zs j) (fun i _ => zs.length - (intOf i).toNat)
  case atStart => exact ⟨0, by omega, rfl, I0⟩
  case round =>
    clear I0
    obtain ⟨j, hj, rfl, H⟩ := hrel
    have j0 : (0 : Int) ≤ (j : Int) := by omega
    by_cases hlt : j < zs.length
    · have l1 : (j : Int) < (zs.length : Int) := by omega
      obtain ⟨x, rfl, x0⟩ := H.r j hlt
      obtain ⟨g, hg⟩ : ∃ g, g = zs[j] := ⟨_, rfl⟩
      rw [← hg] at x0
      have Hg := Lib.hid hg.symm
      clear hg
      have d0 := cell_of_row _ _ 0 _ _ _ H.b
      have d1 := cell_of_row _ _ 1 _ _ _ H.b
      rw [cells_0] at d0
      rw [cells_1] at d1
      have f := frozen_blk H.b
      have hc : (decide (g < 0) = true) ∨ (decide (g < 0) = false ∧ decide (64 ≤ g) = true) ∨ (decide (g < 0) = false ∧ decide (64 ≤ g) = false) := by
        by_cases h1 : g < 0
        · exact Or.inl (decide_eq_true h1)
        · by_cases h2 : 64 ≤ g
          · exact Or.inr (Or.inl ⟨decide_eq_false h1, decide_eq_true h2⟩)
          · exact Or.inr (Or.inr ⟨decide_eq_false h1, decide_eq_false h2⟩)
      have H' := Lib.hid H
      clear H
      rcases hc with h1 | ⟨h1, h2⟩ | ⟨h1, h2⟩
      · go_wp2_with fail
        exact ⟨⟨j + 1, by omega, by go_num, H'.out.stay hlt g Hg.out (by unfold bk1; rw [if_pos (Or.inl (of_decide_eq_true h1))])⟩, by simp [intOf]; omega⟩
      · go_wp2_with fail
        exact ⟨⟨j + 1, by omega, by go_num, H'.out.stay hlt g Hg.out (by unfold bk1; rw [if_pos (Or.inr (of_decide_eq_true h2))])⟩, by simp [intOf]; omega⟩
      · have g0 : ¬ (g < 0 ∨ 64 ≤ g) := by have := of_decide_eq_false h1; have := of_decide_eq_false h2; omega
        obtain ⟨u, rfl⟩ := Int.eq_ofNat_of_zero_le (show 0 ≤ g by omega)
        have g1 : (0 : Int) ≤ (u : Int) := by omega
        have g2 : (u : Int) < 64 := by omega
        have hb := used_not ((bkV y (zs.take j)).n 1) u
        cases hu : usedI ((bkV y (zs.take j)).n 1) u with
        | false =>
          rw [hu] at hb
          have S := Lib.hid (H'.out.stay hlt (u : Int) Hg.out (by unfold bk1; rw [if_neg g0, show ((u : Nat) : Int).toNat = u from rfl, if_pos hu]))
          clear H'
          generalize (bkV y (zs.take j)) = z at *
          go_wp2_with fail
          exact ⟨⟨j + 1, by omega, by go_num, S.out⟩, by simp [intOf]; omega⟩
        | true =>
          rw [hu] at hb
          have S := Lib.hid (H'.out.set lt hB hblk hlt (u : Int) Hg.out g0 hu)
          rw [show ((u : Nat) : Int).toNat = u from rfl] at S
          clear H'
          generalize (bkV y (zs.take j)) = z at *
          go_wp2_with fail
          rw [unmarkN_def, markI_def]
          exact ⟨⟨j + 1, by omega, by go_num, S.out⟩, by simp [intOf]; omega⟩
    · obtain rfl : j = zs.length := by omega
      have hb := H.b
      rw [List.take_length] at hb
      have hv := H.v
      have ht := H.t
      clear H
      go_upto_region 8 with fail
      obtain ⟨bd, vd, sd⟩ := at_drew hb hv
      go_region_with (first
        | (go_at_call 22; refine (spool_any _).mono ?_; rintro e w8 ⟨rfl, t8⟩; have b8 := blk_below t8 bd sd; have v8 := vd.below t8; have r8 := t8.size)
        | (go_at_call 17; refine (vput_any L (st.saw 2 0) 2 0 (bkV y zs) _ (by assumption)).mono ?_; rintro e w9 ⟨rfl, v9, t9⟩))
      all_goals
        clear hb hv bd vd b8 v8
        go_wp2_with fail
        go_end0
        exact ⟨rfl, v9, ((ht.mono fun _ _ => Or.inl).drew.trans (Turn.of_below t8 _)).trans (t9.mono fun _ _ => Or.inr)⟩
end Go.Proofs.YtdlcbclfniahoaaDoor.St
