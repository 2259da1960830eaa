/- The contracts of View.Get, the rest, and of View.Put. No condition but those written in each statement. -/
import Derived.Test.YtfcgkjbifnhjjaaView
namespace Go.Proofs.Ytfcgkjbifnhjjaa.St
open Go.RowKit
set_option linter.unusedVariables false

attribute [local go_sem] blk_alloc_at blk_alloc_past blk_drew blk_drewN blk_setB_same blk_setB_other blk_setRow_other setRow_alloc_at setRow_alloc_past setRow_drewN setRow_drew setB_size setB_cell setB_frozen setB_alloc_past setB_drewN setB_drew run_loadV loadOr_cells run_storeV storeOr_cells cells_size ones_cells cells_0 cells_1 cells_2 cells_16
attribute [local go_sem ↓] execOp_loadV execOp_storeV

theorem vget_neg (L : Lay) (st : VSt) (k n : Int) (h : placeI k n < 0) (w : World) (hV : ViewAt w L st) :
    Calls Try.prog 42 #[.pointer (some ⟨L.v, 0, none⟩), keyV k n] w fun e w' => e = .returned (.agg Val.zero.cells) ∧ Below w.heap.size w w' := by
  have hz := zero_val
  go_enter Try.func42, Try.ntmps42
  go_wp2_with fail
  refine (place_any k n _).mono ?_; rintro e w1 ⟨rfl, hb⟩
  obtain ⟨k0, h2, h3, h4, h5⟩ := after2 hb
  clear hb h3
  go_wp2_with fail
  exact bodyPost_val (b := w.heap.size + 1) rfl rfl rfl (setRow_heap _ _ _ _ _ _ h2) (cells_size _) ⟨rfl, below_setRow h5 (by omega) _⟩

set_option maxRecDepth 100000 in
theorem vget_miss (L : Lay) (st : VSt) (k n : Int) (h : 0 ≤ placeI k n) (hx : st.wr k n = none) (w : World) (hV : ViewAt w L st) :
    Calls Try.prog 42 #[.pointer (some ⟨L.v, 0, none⟩), keyV k n] w fun e w' => e = .returned (.agg (storeLook st.base k n).cells) ∧ ViewAt w' L (st.reads k n) ∧ Turn (· = L.r) w w' := by
  obtain ⟨esr, clr, hr, hkr⟩ := hV.cr
  obtain ⟨esm, clm, hm, hkm⟩ := hV.cm
  obtain ⟨esr', clr', hkr', hput⟩ := run_putR (r := L.r) (clk := clr) hkr k n (.bool true)
  have hlook := fun (W : World) (q : blk W L.m = some (.map esm clm)) => run_lookV (r := L.m) hkm k n W q
  simp only [hx, Option.map_none, Option.getD_none, Option.isSome_none] at hlook
  have hz := zero_val
  have lv := lt_of_heap hV.cv
  have lr := lt_of_heap hr
  have lm := lt_of_heap hm
  have hne : L.m ≠ L.r := fun e => hV.ne e.symm
  have vr : L.v ≠ L.r := cells_ne_map hV.cv hr
  go_enter Try.func42, Try.ntmps42
  go_wp2_with fail
  refine (place_any k n _).mono ?_; rintro e w1 ⟨rfl, hb⟩
  obtain ⟨k0, h2, h3, h4, h5⟩ := after2 hb
  obtain ⟨kc0, kc1⟩ := key_cells k0
  have v0 := cell_of_row w1 L.v 0 _ _ _ ((h3 L.v lv).trans hV.cv)
  have v1 := cell_of_row w1 L.v 1 _ _ _ ((h3 L.v lv).trans hV.cv)
  have v2 := cell_of_row w1 L.v 2 _ _ _ ((h3 L.v lv).trans hV.cv)
  simp at v0 v1 v2
  have hr1 := (h3 L.r lr).trans hr
  have hm1 := (h3 L.m lm).trans hm
  have q1 : w.heap.size ≠ L.r := by omega
  have q2 : w.heap.size + 1 ≠ L.r := by omega
  have q3 : w.heap.size < w1.heap.size := by omega
  have q4 : w.heap.size + 1 < w1.heap.size := by omega
  have q5 : L.r < w1.heap.size := by omega
  have q6 : L.m < w1.heap.size := by omega
  have q7 : L.v < w1.heap.size := by omega
  clear hb h3 hr hm hx
  go_wp2_with fail
  go_region
  go_wp2_with fail
  go_region
  go_wp2_with fail
  have hT2 : Turn (· = L.r) w ((setB w1 L.r (Obj.map esr' clr')).alloc (Obj.cells Val.zero.cells 47)).drew.drew :=
    ((((Turn.of_below h5 (· = L.r)).setB (b := L.r) (Or.inl rfl) _).alloc _).drew).drew
  have b1 : blk ((setB w1 L.r (Obj.map esr' clr')).alloc (Obj.cells Val.zero.cells 47)).drew.drew w.heap.size = some (.cells #[.int .i64 k, .int .i64 n] 51 (0, 0)) := by
    rw [blk_drew, blk_drew, blk_alloc_past _ _ _ (by simp [setB_size]; omega), blk_setB_other _ _ _ _ q1]; exact k0
  have b2 : blk ((setB w1 L.r (Obj.map esr' clr')).alloc (Obj.cells Val.zero.cells 47)).drew.drew (w.heap.size + 1) = some (.cells Val.zero.cells 47 (0, 0)) := by
    rw [blk_drew, blk_drew, blk_alloc_past _ _ _ (by simp [setB_size]; omega), blk_setB_other _ _ _ _ q2]; exact h2
  have b3 : blk ((setB w1 L.r (Obj.map esr' clr')).alloc (Obj.cells Val.zero.cells 47)).drew.drew L.r = some (.map esr' clr') := by
    rw [blk_drew, blk_drew, blk_alloc_past _ _ _ (by simp [setB_size]; omega), blk_setB_same _ _ _ q5]
  have b4 : blk ((setB w1 L.r (Obj.map esr' clr')).alloc (Obj.cells Val.zero.cells 47)).drew.drew L.m = some (.map esm clm) := by
    rw [blk_drew, blk_drew, blk_alloc_past _ _ _ (by simp [setB_size]; omega), blk_setB_other _ _ _ _ hne]; exact hm1
  have hs2 : w1.heap.size + 1 = ((setB w1 L.r (Obj.map esr' clr')).alloc (Obj.cells Val.zero.cells 47)).drew.drew.heap.size := by simp [setB_size]
  generalize ((setB w1 L.r (Obj.map esr' clr')).alloc (Obj.cells Val.zero.cells 47)).drew.drew = W2 at *
  have hv2 := hV.maps hT2 (fun i q => Or.inl q) (st' := st.reads k n) rfl ⟨esr', clr', b3, hkr'⟩ ⟨esm, clm, b4, hkm⟩
  obtain ⟨c0, c1⟩ := key_cells b1
  have c2 := cell_of_row W2 L.v 0 _ _ _ hv2.cv
  simp at c2
  clear kc0 kc1 v0 v1 v2 hlook hput hr1 hm1
  have Hs2 := Lib.hid hs2
  clear hs2
  have hv3 : ViewAt W2.drew L (st.reads k n) := hv2.keep (S := fun _ => False) ((Turn.refl _ _).drew) (fun _ q => q.elim)
  have hT3 : Turn (· = L.r) w W2.drew := hT2.drew
  have d2 : blk W2.drew (w.heap.size + 1) = some (.cells Val.zero.cells 47 (0, 0)) := by rw [blk_drew]; exact b2
  go_still_tail 5, (by kernel_rfl)
  change wpList _ _ _ _ _ W2.drew
  generalize W2.drew = W3 at *
  clear c0 c1 c2 b1 b2 b3 b4
  go_wp2_with fail
  refine (sget_any L.s L.l st.base k n _ hv3.sa).mono ?_; rintro e W4 ⟨rfl, hb⟩
  have e2 : blk W4 (w.heap.size + 1) = some (.cells Val.zero.cells 47 (0, 0)) := (hb.block _ (lt_of_heap d2)).trans d2
  have hT4 : Turn (· = L.r) w W4 := hT3.trans ((Turn.of_below hb (fun i => i = L.r)))
  have hv4 : ViewAt W4 L (st.reads k n) := hv3.below hb
  go_wp2_with fail
  have lw := hV.lts
  have hT5 : Turn (· = w.heap.size + 1) W4 (W4.setRow (w.heap.size + 1) (storeLook st.base k n).cells) := (Turn.refl (· = w.heap.size + 1) _).setRow (b := w.heap.size + 1) (Or.inl rfl) _
  refine bodyPost_val (b := w.heap.size + 1) rfl rfl rfl (setRow_heap _ _ _ _ _ _ e2) (cells_size _) ⟨rfl, hv4.keep hT5 ?_, hT4.setRow (Or.inr (by omega)) _⟩
  rintro i rfl
  omega

/-- What a view tells of a key. -/
def VSt.get (st : VSt) (k n : Int) : Val := if placeI k n < 0 then Val.zero else (st.wr k n).getD (st.base (placeI k n).toNat)
/-- What a view is behind a look at a key. -/
def VSt.saw (st : VSt) (k n : Int) : VSt := if placeI k n < 0 then st else st.reads k n

theorem vget_any (L : Lay) (st : VSt) (k n : Int) (w : World) (hV : ViewAt w L st) :
    Calls Try.prog 42 #[.pointer (some ⟨L.v, 0, none⟩), keyV k n] w fun e w' => e = .returned (.agg (st.get k n).cells) ∧ ViewAt w' L (st.saw k n) ∧ Turn (· = L.r) w w' := by
  unfold VSt.get VSt.saw
  by_cases h : placeI k n < 0
  · rw [if_pos h, if_pos h]
    exact (vget_neg L st k n h w hV).mono fun e w' ⟨a, b⟩ => ⟨a, hV.below b, Turn.of_below b _⟩
  · rw [if_neg h, if_neg h]
    cases hx : st.wr k n with
    | some x => exact vget_hit L st k n x (by omega) hx w hV
    | none =>
      have := vget_miss L st k n (by omega) hx w hV
      unfold storeLook at this
      rw [if_neg h] at this
      exact this

/-- What a view is behind a write of a key. -/
def updV (f : Int → Int → Option Val) (a b : Int) (x : Val) : Int → Int → Option Val := fun k n => if k = a ∧ n = b then some x else f k n
def VSt.put (st : VSt) (k n : Int) (x : Val) : VSt := if placeI k n < 0 then st else { st with wr := updV st.wr k n x }

theorem updV_km (f : Int → Int → Option Val) (a b : Int) (x : Val) : (fun k n => (updV f a b x k n).map fun x => Value.agg x.cells) = updK (fun k n => (f k n).map fun x => .agg x.cells) a b (.agg x.cells) := by
  funext k n
  unfold updV updK
  split <;> rfl

set_option maxRecDepth 100000 in
theorem vput_any (L : Lay) (st : VSt) (k n : Int) (x : Val) (w : World) (hV : ViewAt w L st) :
    Calls Try.prog 44 #[.pointer (some ⟨L.v, 0, none⟩), keyV k n, .agg x.cells] w fun e w' => e = .returned (.tuple #[]) ∧ ViewAt w' L (st.put k n x) ∧ Turn (· = L.m) w w' := by
  unfold VSt.put
  obtain ⟨esr, clr, hr, hkr⟩ := hV.cr
  obtain ⟨esm, clm, hm, hkm⟩ := hV.cm
  obtain ⟨esm', clm', hkm', hput⟩ := run_putV (r := L.m) (clk := clm) hkm k n (.agg x.cells)
  have lv := lt_of_heap hV.cv
  have lr := lt_of_heap hr
  have lm := lt_of_heap hm
  by_cases h : placeI k n < 0
  · rw [if_pos h]
    have hd : decide (0 ≤ placeI k n) = false := decide_eq_false (by omega)
    go_enter Try.func44, Try.ntmps44
    go_wp2_with fail
    refine (place_any k n _).mono ?_; rintro e w1 ⟨rfl, hb⟩
    obtain ⟨_, _, _, h4, h5⟩ := after2 hb
    go_wp2_with fail
    go_end0
    exact ⟨rfl, hV.below h5, Turn.of_below h5 _⟩
  · rw [if_neg h]
    have hd : decide (0 ≤ placeI k n) = true := decide_eq_true (by omega)
    go_enter Try.func44, Try.ntmps44
    go_wp2_with fail
    refine (place_any k n _).mono ?_; rintro e w1 ⟨rfl, hb⟩
    obtain ⟨k0, h2, h3, h4, h5⟩ := after2 hb
    obtain ⟨kc0, kc1⟩ := key_cells k0
    have v2 := cell_of_row w1 L.v 2 _ _ _ ((h3 L.v lv).trans hV.cv)
    simp at v2
    have hm1 := (h3 L.m lm).trans hm
    have q6 : L.m < w1.heap.size := by omega
    have hk2 : KM esm' clm' (fun k' n' => (updV st.wr k n x k' n').map fun x => Value.agg x.cells) := by rw [updV_km]; exact hkm'
    have hT : Turn (· = L.m) w (setB w1 L.m (Obj.map esm' clm')) := (Turn.of_below h5 (· = L.m)).setB (b := L.m) (Or.inl rfl) _
    have c1 : blk (setB w1 L.m (Obj.map esm' clm')) L.m = some (.map esm' clm') := blk_setB_same _ _ _ q6
    have c2 : blk (setB w1 L.m (Obj.map esm' clm')) L.r = some (.map esr clr) := by rw [blk_setB_other _ _ _ _ hV.ne]; exact (h3 L.r lr).trans hr
    have hv' := hV.maps (st' := { st with wr := updV st.wr k n x }) hT (fun i q => Or.inr q) rfl ⟨esr, clr, c2, hkr⟩ ⟨esm', clm', c1, hk2⟩
    clear hb h3 hr hm c1 c2
    go_wp2_with fail
    go_region
    go_wp2_with fail
    go_end0
    exact ⟨rfl, hv'.keep (S := fun _ => False) ((Turn.refl _ _).drew) (fun _ q => q.elim), hT.drew⟩

end Go.Proofs.Ytfcgkjbifnhjjaa.St
