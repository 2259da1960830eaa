/- The contract of the document's own View.Get. No condition but those written in each statement. -/
import Derived.Test.YtfcgkjbifnhjjaaRefV
namespace Go.Proofs.Ytfcgkjbifnhjjaa.St
open Go.RowKit
set_option linter.unusedVariables false

attribute [local go_sem] blk_alloc_at blk_alloc_past blk_drew blk_drewN blk_setB_same blk_setB_other blk_setRow_other setRow_alloc_at setRow_alloc_past setRow_drewN setRow_drew setB_size setB_cell setB_frozen setB_alloc_past setB_drewN setB_drew run_loadV loadOr_cells run_storeV storeOr_cells cells_size ones_cells
attribute [local go_sem ↓] execOp_loadV execOp_storeV
attribute [local irreducible] Int.lt Int.le
theorem RViewAt.saw {W W' : World} {L : RLay} {st : VSt} {k n : Int} {es' : Array MapEntry} {clk' : Nat} (hV : RViewAt W L st) (hpp : 0 ≤ placeI k n) (ht : Turn (· = L.r) W W') (hb : blk W' L.r = some (.map es' clk')) (hk : KI es' clk' (updI (inR st.rd) (placeI k n) (.bool true))) : RViewAt W' L (st.saw k n) := by
  obtain ⟨e1, c1, h1, k1⟩ := hV.cr
  obtain ⟨e2, c2, h2, k2⟩ := hV.cm
  have hbs : (st.saw k n).base = st.base := by unfold VSt.saw; split <;> rfl
  have hwr : wrV (st.saw k n) = wrV st := by unfold VSt.saw wrV; split <;> rfl
  refine ⟨blk_of_turn ht hV.cq (cells_ne_map hV.cq h1), by rw [hbs]; exact hV.sa.keep ht (cells_ne_map hV.sa.cd h1) hV.ne.2.1, ⟨es', clk', hb, ?_⟩, ⟨e2, c2, blk_of_turn ht h2 (Ne.symm hV.ne.1), by rw [hwr]; exact k2⟩, hV.ne⟩
  rw [rd_saw st k n hpp, inR_upd _ _ _ _ hpp]; exact hk
set_option maxRecDepth 100000 in
set_option maxHeartbeats 1000000 in
theorem rvget_neg (L : RLay) (st : VSt) (k n : Int) (hk : k ≤ 9223372036854775807) (hpp : placeI k n < 0) (w : World) (hV : RViewAt w L st) :
    Calls Try.prog 18 #[.pointer (some ⟨L.q, 0, none⟩), keyV k n] w fun e w' => e = .returned (.agg Val.zero.cells) ∧ Below w.heap.size w w' := by
  have hpl := fun W => rplace_any k n hk W
  have HP := Lib.hid hpl
  clear hpl
  have hz := zero_val
  have hdd : decide (placeI k n < 0) = true := decide_eq_true hpp
  generalize placeI k n = P at *
  go_enter Try.func18, Try.ntmps18
  go_wp2_with fail
  refine (HP.out _).mono ?_; rintro e w1 ⟨rfl, hb⟩
  obtain ⟨k0, h2, h3, h4, h5⟩ := after2 hb
  clear hb h3
  go_wp2_with fail
  exact bodyPost_val (b := w.heap.size + 1) rfl rfl rfl (setRow_heap _ _ _ _ _ _ h2) rfl ⟨rfl, below_setRow h5 (by omega) _⟩
set_option maxRecDepth 100000 in
set_option maxHeartbeats 1000000 in
theorem rvget_hit (L : RLay) (st : VSt) (k n : Int) (x : Val) (hk : k ≤ 9223372036854775807) (hpp : 0 ≤ placeI k n) (hx : st.wr k n = some x) (w : World) (hV : RViewAt w L st) :
    Calls Try.prog 18 #[.pointer (some ⟨L.q, 0, none⟩), keyV k n] w fun e w' => e = .returned (.agg x.cells) ∧ RViewAt w' L (st.saw k n) ∧ Turn (· = L.r) w w' := by
  obtain ⟨esr, clr, hr, hkr⟩ := hV.cr
  obtain ⟨esm, clm, hm, hkm⟩ := hV.cm
  obtain ⟨esr', clr', hkr', hput⟩ := run_putI (r := L.r) Try.underlying84 hkr (placeI k n) (place_wfI k n) (.bool true)
  have hlook := fun (W : World) (q : blk W L.m = some (.map esm clm)) => (run_lookI Try.underlying85 hkm (placeI k n) (place_wfI k n) W q (zero_val W)).1
  rw [inR_at _ _ _ hpp] at hlook
  unfold wrV at hlook
  simp only [hx, Option.map_some, Option.getD_some, Option.isSome_some] at hlook
  have hpl := fun W => rplace_any k n hk W
  have HP := Lib.hid hpl
  have hz := zero_val
  have lv := lt_of_heap hV.cq
  have lr := lt_of_heap hr
  have lm := lt_of_heap hm
  have hne := Ne.symm hV.ne.1
  have vr := cells_ne_map hV.cq hr
  have HX : ∀ W', Turn (· = L.r) w W' → blk W' L.r = some (.map esr' clr') → RViewAt W' L (st.saw k n) := fun W' ht hb => hV.saw hpp ht hb hkr'
  have HXh := Lib.hid HX
  have hcq := hV.cq
  clear HX hpl hx hV hkr'
  have hdd : decide (placeI k n < 0) = false := decide_eq_false (by omega)
  generalize st.saw k n = X at *
  generalize placeI k n = P at *
  go_enter Try.func18, Try.ntmps18
  go_wp2_with fail
  refine (HP.out _).mono ?_; rintro e w1 ⟨rfl, hb⟩
  obtain ⟨k0, h2, h3, h4, h5⟩ := after2 hb
  have v1 := cell_of_row w1 L.q 1 _ _ _ ((h3 L.q lv).trans hcq)
  have v2 := cell_of_row w1 L.q 2 _ _ _ ((h3 L.q lv).trans hcq)
  simp at v1 v2
  have hr1 := (h3 L.r lr).trans hr
  have hm1 := (h3 L.m lm).trans hm
  have q1 : w.heap.size ≠ L.r := by omega
  have q2 : w.heap.size + 1 ≠ L.r := by omega
  have q4 : w.heap.size + 1 < w1.heap.size := by omega
  have q5 : L.r < w1.heap.size := by omega
  have q6 : L.m < w1.heap.size := by omega
  clear hb h3 hr hm
  go_wp2_with fail
  have hT : Turn (· = L.r) w (((setB w1 L.r (Obj.map esr' clr')).setRow (w.heap.size + 1) x.cells).alloc (Obj.cells x.cells 47)) :=
    (((Turn.of_below h5 (· = L.r)).setB (b := L.r) (Or.inl (show L.r = L.r from rfl)) _).setRow (b := w.heap.size + 1) (Or.inr (by omega)) _).alloc _
  refine bodyPost_val (b := w.heap.size + 1) (c := x.cells) (t := 47) (fz := (0, 0)) rfl rfl rfl ?_ (cells_size _) ⟨rfl, HXh.out _ hT ?_, hT⟩
  · show blk _ _ = _
    have : blk (setB w1 L.r (Obj.map esr' clr')) (w.heap.size + 1) = some (.cells Val.zero.cells 47 (0, 0)) := by rw [blk_setB_other _ _ _ _ q2]; exact h2
    rw [blk_alloc_past _ _ _ (by simp [setB_size]; omega)]
    exact setRow_heap _ _ _ _ _ _ this
  · rw [blk_alloc_past _ _ _ (by simp [setB_size]; omega), blk_setRow_other _ _ _ _ (Ne.symm q2), blk_setB_same _ _ _ q5]
set_option maxRecDepth 100000 in
set_option maxHeartbeats 1000000 in
theorem rvget_miss (L : RLay) (st : VSt) (k n : Int) (hk : k ≤ 9223372036854775807) (hpp : 0 ≤ placeI k n) (hx : st.wr k n = none) (w : World) (hV : RViewAt w L st) :
    Calls Try.prog 18 #[.pointer (some ⟨L.q, 0, none⟩), keyV k n] w fun e w' => e = .returned (.agg (st.base (placeI k n).toNat).cells) ∧ RViewAt w' L (st.saw k n) ∧ Turn (· = L.r) w w' := by
  obtain ⟨esr, clr, hr, hkr⟩ := hV.cr
  obtain ⟨esm, clm, hm, hkm⟩ := hV.cm
  obtain ⟨esr', clr', hkr', hput⟩ := run_putI (r := L.r) Try.underlying84 hkr (placeI k n) (place_wfI k n) (.bool true)
  have hlook := fun (W : World) (q : blk W L.m = some (.map esm clm)) => (run_lookI Try.underlying85 hkm (placeI k n) (place_wfI k n) W q (zero_val W)).1
  rw [inR_at _ _ _ hpp] at hlook
  unfold wrV at hlook
  simp only [hx, Option.map_none, Option.getD_none, Option.isSome_none] at hlook
  obtain ⟨ess, cls, f, hs, hks, hf1, hf2⟩ := hV.sa.cm
  have hloo2 := fun (W : World) (q : blk W L.s = some (.map ess cls)) => (run_lookI Try.underlying85 hks (placeI k n) (place_wfI k n) W q (zero_val W)).2
  have hff : (f (placeI k n)).getD (.agg Val.zero.cells) = .agg (st.base (placeI k n).toNat).cells := by
    have := hf2 (placeI k n).toNat (by have := k_place_lt k n hpp; omega)
    rwa [show (((placeI k n).toNat : Nat) : Int) = placeI k n by omega] at this
  rw [hff] at hloo2
  have hcd := hV.sa.cd
  have ls := lt_of_heap hs
  have ld := lt_of_heap hcd
  have nds : L.d ≠ L.r := cells_ne_map hcd hr
  have nsr := hV.ne.2.1
  clear hf1 hf2 hff
  have hpl := fun W => rplace_any k n hk W
  have HP := Lib.hid hpl
  have hz := zero_val
  have lv := lt_of_heap hV.cq
  have lr := lt_of_heap hr
  have lm := lt_of_heap hm
  have hne := Ne.symm hV.ne.1
  have vr := cells_ne_map hV.cq hr
  have HX : ∀ W', Turn (· = L.r) w W' → blk W' L.r = some (.map esr' clr') → RViewAt W' L (st.saw k n) := fun W' ht hb => hV.saw hpp ht hb hkr'
  have HXh := Lib.hid HX
  have hcq := hV.cq
  clear HX hpl hx hV hkr'
  generalize st.base (placeI k n).toNat = x at *
  have hdd : decide (placeI k n < 0) = false := decide_eq_false (by omega)
  generalize st.saw k n = X at *
  generalize placeI k n = P at *
  go_enter Try.func18, Try.ntmps18
  go_wp2_with fail
  refine (HP.out _).mono ?_; rintro e w1 ⟨rfl, hb⟩
  obtain ⟨k0, h2, h3, h4, h5⟩ := after2 hb
  have v1 := cell_of_row w1 L.q 1 _ _ _ ((h3 L.q lv).trans hcq)
  have v2 := cell_of_row w1 L.q 2 _ _ _ ((h3 L.q lv).trans hcq)
  have v0 := cell_of_row w1 L.q 0 _ _ _ ((h3 L.q lv).trans hcq)
  have d0 := cell_of_row w1 L.d 0 _ _ _ ((h3 L.d ld).trans hcd)
  simp at v0 v1 v2 d0
  have hs1 := (h3 L.s ls).trans hs
  have hr1 := (h3 L.r lr).trans hr
  have hm1 := (h3 L.m lm).trans hm
  have q1 : w.heap.size ≠ L.r := by omega
  have q2 : w.heap.size + 1 ≠ L.r := by omega
  have q4 : w.heap.size + 1 < w1.heap.size := by omega
  have q5 : L.r < w1.heap.size := by omega
  have q6 : L.m < w1.heap.size := by omega
  have q7 : L.s < w1.heap.size := by omega
  have q8 : L.d < w1.heap.size := by omega
  have q9 : L.q < w1.heap.size := by omega
  have q10 : w.heap.size + 1 ≠ L.s := by omega
  clear hb h3 hr hm hs
  go_wp2_with fail
  have hT : Turn (· = L.r) w (((setB w1 L.r (Obj.map esr' clr')).setRow (w.heap.size + 1) x.cells).alloc (Obj.cells Val.zero.cells 47)) :=
    (((Turn.of_below h5 (· = L.r)).setB (b := L.r) (Or.inl (show L.r = L.r from rfl)) _).setRow (b := w.heap.size + 1) (Or.inr (by omega)) _).alloc _
  refine bodyPost_val (b := w.heap.size + 1) (c := x.cells) (t := 47) (fz := (0, 0)) rfl rfl rfl ?_ (cells_size _) ⟨rfl, HXh.out _ hT ?_, hT⟩
  · show blk _ _ = _
    have : blk (setB w1 L.r (Obj.map esr' clr')) (w.heap.size + 1) = some (.cells Val.zero.cells 47 (0, 0)) := by rw [blk_setB_other _ _ _ _ q2]; exact h2
    rw [blk_alloc_past _ _ _ (by simp [setB_size]; omega)]
    exact setRow_heap _ _ _ _ _ _ this
  · rw [blk_alloc_past _ _ _ (by simp [setB_size]; omega), blk_setRow_other _ _ _ _ (Ne.symm q2), blk_setB_same _ _ _ q5]
theorem rvget_any (L : RLay) (st : VSt) (k n : Int) (hk : k ≤ 9223372036854775807) (w : World) (hV : RViewAt w L st) :
    Calls Try.prog 18 #[.pointer (some ⟨L.q, 0, none⟩), keyV k n] w fun e w' => e = .returned (.agg (st.get k n).cells) ∧ RViewAt w' L (st.saw k n) ∧ Turn (· = L.r) w w' := by
  by_cases h : placeI k n < 0
  · have e1 : st.saw k n = st := by unfold VSt.saw; rw [if_pos h]
    have e2 : st.get k n = Val.zero := by unfold VSt.get; rw [if_pos h]
    rw [e1, e2]
    exact (rvget_neg L st k n hk h w hV).mono fun e w' ⟨a, b⟩ => ⟨a, hV.below b, Turn.of_below b _⟩
  · cases hx : st.wr k n with
    | some x =>
      have e2 : st.get k n = x := by unfold VSt.get; rw [if_neg h, hx]; rfl
      rw [e2]; exact rvget_hit L st k n x hk (by omega) hx w hV
    | none =>
      have e2 : st.get k n = st.base (placeI k n).toNat := by unfold VSt.get; rw [if_neg h, hx]; rfl
      rw [e2]; exact rvget_miss L st k n hk (by omega) hx w hV
theorem rvput_any (L : RLay) (st : VSt) (k n : Int) (x : Val) (hk : k ≤ 9223372036854775807) (w : World) (hV : RViewAt w L st) :
    Calls Try.prog 46 #[.pointer (some ⟨L.q, 0, none⟩), keyV k n, .agg x.cells] w fun e w' => (∃ v, e = .returned v) ∧ RViewAt w' L (st.put k n x) ∧ Turn (· = L.m) w w' := by
  by_cases h : 0 ≤ placeI k n
  · exact rvput_yes L st k n x hk h w hV
  · have e1 : st.put k n x = st := by unfold VSt.put; rw [if_pos (by omega)]
    rw [e1]
    have hpl := fun W => rplace_any k n hk W
    have HP := Lib.hid hpl
    clear hpl e1
    have hd : decide (0 ≤ placeI k n) = false := decide_eq_false h
    generalize placeI k n = P at *
    go_enter Try.func46, Try.ntmps46
    go_wp2_with fail
    refine (HP.out _).mono ?_; rintro e w1 ⟨rfl, hb⟩
    obtain ⟨_, h2, h3, h4, h5⟩ := after2 hb
    have S1 := hV.below h5
    clear hb h3 hV
    go_wp2_with fail
    go_end0
    exact ⟨⟨_, rfl⟩, S1, Turn.of_below h5 _⟩
end Go.Proofs.Ytfcgkjbifnhjjaa.St
