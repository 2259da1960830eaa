/- A store and a view of it in memory, as a plain state; the contracts of Store.Get, View.Get, View.Put. The contracts of View.Get, the rest, and of View.Put. The contracts of store.New and store.Look: a store of zero values, a view that has read and written nothing. No condition. The contracts of key.All and key.At. No condition but those written in each statement. -/
import Derived.Test.YtfcgkjbifnhjjaaGreatDoorQ51
import Derived.Test.YtfcgkjbifnhjjaaGreatDoorValQ
import Derived.BigRegion
namespace Go.Proofs.YtfcgkjbifnhjjaaGreatDoor.St
open Go.RowKit
set_option linter.unusedVariables false

attribute [local go_sem] blk_alloc_at blk_alloc_past blk_drew blk_drewN blk_setB_same blk_setB_other blk_setRow_other setRow_alloc_at setRow_alloc_past setRow_drewN setRow_drew setB_size setB_cell setB_frozen setB_alloc_past setB_drewN setB_drew run_loadV loadOr_cells run_storeV storeOr_cells cells_size ones_cells cells_0 cells_1 cells_2 cells_16
attribute [local go_sem ↓] execOp_loadV execOp_storeV

/-- Where a view and its store lie. -/
structure Lay where
  v : Nat
  s : Nat
  l : Nat
  r : Nat
  m : Nat

/-- What a store has, what was read and written through its view. -/
structure VSt where
  base : Nat → Val
  rd : Int → Int → Option Value
  wr : Int → Int → Option Val

def VSt.look (st : VSt) (k n : Int) : Val := (st.wr k n).getD (st.base (placeI k n).toNat)

/-- A store in memory. -/
structure StoreAt (W : World) (s l : Nat) (base : Nat → Val) : Prop where
  cs : ∃ cap, 55 ≤ cap ∧ W.heap[s]? = some (.cells #[.slice (some ⟨l, 0, none⟩) 55 cap] 109 (0, 0))
  cl : ∃ c, W.heap[l]? = some (.cells c 60 (0, 0)) ∧ 935 ≤ c.size ∧ ∀ p, p < 55 → (c.extract (p * 17) (p * 17 + 17)) = (base p).cells

theorem lt_of_heap {W : World} {b : Nat} {o : Obj} (h : W.heap[b]? = some o) : b < W.heap.size := (Array.getElem?_eq_some_iff.1 h).1
theorem StoreAt.lts {W : World} {s l : Nat} {base : Nat → Val} (h : StoreAt W s l base) : s < W.heap.size := by
  obtain ⟨_, _, h1⟩ := h.cs; exact lt_of_heap h1

theorem after2 {w w1 : World} {A B : Obj} (hb : Below ((w.alloc A).alloc B).heap.size ((w.alloc A).alloc B) w1) :
    blk w1 w.heap.size = some A ∧ blk w1 (w.heap.size + 1) = some B ∧ (∀ n, n < w.heap.size → blk w1 n = blk w n) ∧ w.heap.size + 2 ≤ w1.heap.size ∧ Below w.heap.size w w1 := by
  have hs : ((w.alloc A).alloc B).heap.size = w.heap.size + 2 := by simp
  refine ⟨?_, ?_, ?_, ?_, ?_⟩
  · unfold blk; rw [hb.block _ (by omega)]; exact heap_alloc2_old w A B
  · unfold blk; rw [hb.block _ (by omega)]; exact heap_alloc2_new w A B
  · intro n hn
    unfold blk
    rw [hb.block _ (by omega), heap_alloc_past _ _ _ (by simp; omega), heap_alloc_past _ _ _ hn]
  · have := hb.size; omega
  · exact (((Below.refl _ _).alloc (Nat.le_refl _) _).alloc (by simp) _).trans (hb.mono (by omega))

theorem key_cells {W : World} {b : Nat} {k n : Int} (h : W.heap[b]? = some (.cells #[.int .i64 k, .int .i64 n] 57 (0, 0))) :
    W.cell? ⟨b, 0, none⟩ = some (.int .i64 k) ∧ W.cell? ⟨b, 1, none⟩ = some (.int .i64 n) :=
  ⟨cell_of_row W b 0 _ _ _ h, cell_of_row W b 1 _ _ _ h⟩

theorem bodyPost_val {fn : Func} {R : Ending → World → Prop} {a : Act} {W : World} {b t : Nat} {c : Array Value} {fz : Nat × Nat} {p : Tmp} (hr : fn.results = #[.cell p 60]) (hd : a.defers = [])
    (hp : a.tmps.getD p undef = .pointer (some ⟨b, 0, none⟩)) (hb : W.heap[b]? = some (.cells c t fz)) (hc : c.size = 17) (h : R (.returned (.agg c)) W) : bodyPost Tryz.prog fn R .ret a W := by
  obtain ⟨fs, hu⟩ := val_struct
  exact bodyPost_ret (results_cell_row hr a.tmps W b t c fz _ hp hb hu rfl (by rw [val_size, hc])) hd h

theorem sget_no (s l : Nat) (base : Nat → Val) (k n : Int) (h : placeI k n < 0) (w : World) (hS : StoreAt w s l base) :
    Calls Tryz.prog 50 #[.pointer (some ⟨s, 0, none⟩), keyV k n] w fun e w' => e = .returned (.agg Val.zero.cells) ∧ Below w.heap.size w w' := by
  have hz := zero_val
  go_enter Tryz.func50, Tryz.ntmps50
  go_wp2_with fail
  refine (place_any k n _).mono ?_; rintro e w1 ⟨rfl, hb⟩
  obtain ⟨_, h2, _, _, h5⟩ := after2 hb
  clear hb
  go_wp2_with fail
  exact bodyPost_val (b := w.heap.size + 1) rfl rfl rfl (setRow_heap _ _ _ _ _ _ h2) rfl ⟨rfl, below_setRow h5 (by omega) _⟩

theorem sget_yes (s l : Nat) (base : Nat → Val) (k n : Int) (p : Nat) (h : placeI k n = (p : Int)) (hp : p < 55) (w : World) (hS : StoreAt w s l base) :
    Calls Tryz.prog 50 #[.pointer (some ⟨s, 0, none⟩), keyV k n] w fun e w' => e = .returned (.agg (base p).cells) ∧ Below w.heap.size w w' := by
  obtain ⟨c, hc, hcs, hx⟩ := hS.cl
  have hz := zero_val
  obtain ⟨cap, hcap, hcs0⟩ := hS.cs
  have hls := lt_of_heap hcs0
  have hll := lt_of_heap hc
  have hx := hx p hp
  go_enter Tryz.func50, Tryz.ntmps50
  go_wp2_with fail
  refine (place_any k n _).mono ?_; rintro e w1 ⟨rfl, hb⟩
  obtain ⟨_, h2, h3, _, h5⟩ := after2 hb
  have hs1 := cell_of_row w1 s 0 _ _ _ ((h3 s hls).trans hcs0)
  have hl1 := (h3 l hll).trans hc
  have hld := fun (W : World) (q : blk W l = some (.cells c 60 (0, 0))) => run_loadV_row W l p c _ _ q hx
  have hsz : (base p).cells.size = 17 := cells_size _
  have hx1 := Lib.hid hx
  clear hb hx h3 hc
  rw [h]
  have hp0 : (0 : Int) ≤ (p : Int) := by omega
  simp only [List.getElem?_toArray, List.getElem?_cons_zero] at hs1
  go_wp2_with fail
  exact bodyPost_val (b := w.heap.size + 1) rfl rfl rfl (setRow_heap _ _ _ _ _ _ h2) (cells_size _) ⟨rfl, below_setRow h5 (by omega) _⟩

theorem place_lt (k n : Int) : placeI k n < 55 := by
  by_cases h : 0 ≤ placeI k n
  · obtain ⟨h1, h2, h3, h4, h5⟩ := place_range k n h
    rw [h5]
    have : k = 1 ∨ k = 2 ∨ k = 3 ∨ k = 4 ∨ k = 5 ∨ k = 6 ∨ k = 7 ∨ k = 8 ∨ k = 9 ∨ k = 10 ∨ k = 11 ∨ k = 12 := by omega
    rcases this with rfl | rfl | rfl | rfl | rfl | rfl | rfl | rfl | rfl | rfl | rfl | rfl
    all_goals
      simp only [manyI] at h2
      simp at h2
      simp [aheadI, aheadN, manyI]
      omega
  · omega

/-- What a store tells of a key. -/
def storeLook (base : Nat → Val) (k n : Int) : Val := if placeI k n < 0 then Val.zero else base (placeI k n).toNat

theorem sget_any (s l : Nat) (base : Nat → Val) (k n : Int) (w : World) (hS : StoreAt w s l base) :
    Calls Tryz.prog 50 #[.pointer (some ⟨s, 0, none⟩), keyV k n] w fun e w' => e = .returned (.agg (storeLook base k n).cells) ∧ Below w.heap.size w w' := by
  unfold storeLook
  by_cases h : placeI k n < 0
  · rw [if_pos h]; exact sget_no s l base k n h w hS
  · have := place_lt k n
    rw [if_neg h]
    exact sget_yes s l base k n _ (by omega) (by omega) w hS

/-- A view and its store in memory. -/
structure ViewAt (W : World) (L : Lay) (st : VSt) : Prop where
  cv : W.heap[L.v]? = some (.cells #[.pointer (some ⟨L.s, 0, none⟩), .map (some L.r), .map (some L.m)] 105 (0, 0))
  sa : StoreAt W L.s L.l st.base
  cr : ∃ es clk, W.heap[L.r]? = some (.map es clk) ∧ KM es clk st.rd
  cm : ∃ es clk, W.heap[L.m]? = some (.map es clk) ∧ KM es clk (fun k n => (st.wr k n).map fun x => .agg x.cells)
  ne : L.r ≠ L.m

theorem blk_of_turn {S : Nat → Prop} {W W' : World} (h : Turn S W W') {b : Nat} {o : Obj} (hb : W.heap[b]? = some o) (hS : ¬ S b) : W'.heap[b]? = some o :=
  (h.block b (lt_of_heap hb) hS).trans hb

theorem cells_ne_map {W : World} {b r : Nat} {c : Array Value} {t : TypeId} {fz : Nat × Nat} {es : Array MapEntry} {clk : Nat} (h1 : W.heap[b]? = some (.cells c t fz)) (h2 : W.heap[r]? = some (.map es clk)) : b ≠ r := by
  intro e; rw [e, h2] at h1; cases h1

theorem StoreAt.keep {S : Nat → Prop} {W W' : World} {s l : Nat} {base : Nat → Val} (h : StoreAt W s l base) (hT : Turn S W W') (hs : ¬ S s) (hl : ¬ S l) : StoreAt W' s l base :=
  ⟨by obtain ⟨cap, h0, h1⟩ := h.cs; exact ⟨cap, h0, blk_of_turn hT h1 hs⟩, by obtain ⟨c, h1, h2⟩ := h.cl; exact ⟨c, blk_of_turn hT h1 hl, h2⟩⟩

/-- Only the maps have turned. -/
theorem ViewAt.maps {S : Nat → Prop} {W W' : World} {L : Lay} {st st' : VSt} (h : ViewAt W L st) (hT : Turn S W W') (hS : ∀ i, S i → i = L.r ∨ i = L.m) (hb : st'.base = st.base)
    (cr : ∃ es clk, W'.heap[L.r]? = some (.map es clk) ∧ KM es clk st'.rd) (cm : ∃ es clk, W'.heap[L.m]? = some (.map es clk) ∧ KM es clk (fun k n => (st'.wr k n).map fun x => .agg x.cells)) : ViewAt W' L st' := by
  obtain ⟨esr, clr, hr, _⟩ := h.cr
  obtain ⟨esm, clm, hm, _⟩ := h.cm
  obtain ⟨c, hc, _⟩ := h.sa.cl
  have n1 : ¬ S L.v := fun q => by
    rcases hS _ q with e | e
    · exact cells_ne_map h.cv hr e
    · exact cells_ne_map h.cv hm e
  have n2 : ¬ S L.s := fun q => by
    rcases hS _ q with e | e
    · obtain ⟨_, _, q⟩ := h.sa.cs; exact cells_ne_map q hr e
    · obtain ⟨_, _, q⟩ := h.sa.cs; exact cells_ne_map q hm e
  have n3 : ¬ S L.l := fun q => by
    rcases hS _ q with e | e
    · exact cells_ne_map hc hr e
    · exact cells_ne_map hc hm e
  exact ⟨blk_of_turn hT h.cv n1, by rw [hb]; exact h.sa.keep hT n2 n3, cr, cm, h.ne⟩

/-- Nothing of the view has turned. -/
theorem ViewAt.keep {S : Nat → Prop} {W W' : World} {L : Lay} {st : VSt} (h : ViewAt W L st) (hT : Turn S W W') (hS : ∀ i, S i → i ≠ L.v ∧ i ≠ L.s ∧ i ≠ L.l ∧ i ≠ L.r ∧ i ≠ L.m) : ViewAt W' L st := by
  obtain ⟨esr, clr, hr, kr⟩ := h.cr
  obtain ⟨esm, clm, hm, km⟩ := h.cm
  exact ⟨blk_of_turn hT h.cv (fun q => (hS _ q).1 rfl), h.sa.keep hT (fun q => (hS _ q).2.1 rfl) (fun q => (hS _ q).2.2.1 rfl),
    ⟨esr, clr, blk_of_turn hT hr (fun q => (hS _ q).2.2.2.1 rfl), kr⟩, ⟨esm, clm, blk_of_turn hT hm (fun q => (hS _ q).2.2.2.2 rfl), km⟩, h.ne⟩
theorem ViewAt.below {W W' : World} {L : Lay} {st : VSt} (h : ViewAt W L st) (hT : Below W.heap.size W W') : ViewAt W' L st :=
  h.keep (Turn.of_below hT (fun _ => False)) (fun _ q => q.elim)

theorem ViewAt.lts {W : World} {L : Lay} {st : VSt} (h : ViewAt W L st) : L.v < W.heap.size ∧ L.s < W.heap.size ∧ L.l < W.heap.size ∧ L.r < W.heap.size ∧ L.m < W.heap.size := by
  obtain ⟨esr, clr, hr, _⟩ := h.cr
  obtain ⟨esm, clm, hm, _⟩ := h.cm
  obtain ⟨c, hc, _⟩ := h.sa.cl
  exact ⟨lt_of_heap h.cv, h.sa.lts, lt_of_heap hc, lt_of_heap hr, lt_of_heap hm⟩

/-- Only blocks from B on have turned, and the view lies below B. -/
theorem ViewAt.off {B : Nat} {W W' : World} {L : Lay} {st : VSt} (h : ViewAt W L st) (hT : Turn (fun j => B ≤ j) W W') (lt : L.v < B ∧ L.s < B ∧ L.l < B ∧ L.r < B ∧ L.m < B) : ViewAt W' L st :=
  h.keep hT (fun i q => by omega)
theorem Turn.offS {B : Nat} {S : Nat → Prop} {a w w' : World} (h : Turn S a w) (hT : Turn (fun j => B ≤ j) w w') (hB : a.heap.size ≤ B) : Turn S a w' :=
  ⟨hT.os.trans h.os, hT.tape.trans h.tape, hT.output.trans h.output, Nat.le_trans h.size hT.size, fun i hi hn => (hT.block i (Nat.lt_of_lt_of_le hi h.size) (by omega)).trans (h.block i hi hn)⟩

theorem ViewAt.drew {W : World} {L : Lay} {st : VSt} (h : ViewAt W L st) : ViewAt W.drew L st := h.keep (S := fun _ => False) (Turn.refl _ _).drew (fun _ q => q.elim)
theorem ViewAt.drewN {W : World} {L : Lay} {st : VSt} (h : ViewAt W L st) (n : Nat) : ViewAt (W.drewN n) L st := h.keep (S := fun _ => False) ((Turn.refl _ _).drewN n) (fun _ q => q.elim)
theorem at_drew {W : World} {L : Lay} {st : VSt} {B : Nat} {o : Obj} (b : blk W B = some o) (v : ViewAt W L st) : blk W.drew B = some o ∧ ViewAt W.drew L st ∧ B < W.drew.heap.size :=
  ⟨by rw [blk_drew]; exact b, v.drew, blk_lt b⟩
theorem ViewAt.alloc {W : World} {L : Lay} {st : VSt} (h : ViewAt W L st) (o : Obj) : ViewAt (W.alloc o) L st := h.below ((Below.refl _ _).alloc (Nat.le_refl _) _)

/-- Some key has been read. -/
def VSt.reads (st : VSt) (k n : Int) : VSt := { st with rd := updK st.rd k n (.bool true) }

set_option maxRecDepth 100000 in
theorem vget_hit (L : Lay) (st : VSt) (k n : Int) (x : Val) (h : 0 ≤ placeI k n) (hx : st.wr k n = some x) (w : World) (hV : ViewAt w L st) :
    Calls Tryz.prog 30 #[.pointer (some ⟨L.v, 0, none⟩), keyV k n] w fun e w' => e = .returned (.agg x.cells) ∧ ViewAt w' L (st.reads k n) ∧ Turn (· = L.r) w w' := by
  obtain ⟨esr, clr, hr, hkr⟩ := hV.cr
  obtain ⟨esm, clm, hm, hkm⟩ := hV.cm
  obtain ⟨esr', clr', hkr', hput⟩ := run_putR (r := L.r) (clk := clr) hkr k n (.bool true)
  have hlook := fun (W : World) (q : blk W L.m = some (.map esm clm)) => run_lookV (r := L.m) hkm k n W q
  simp only [hx, Option.map_some, Option.getD_some, Option.isSome_some] at hlook
  have hz := zero_val
  have lv := lt_of_heap hV.cv
  have lr := lt_of_heap hr
  have lm := lt_of_heap hm
  have hne : L.m ≠ L.r := fun e => hV.ne e.symm
  have vr : L.v ≠ L.r := by
    intro e
    have a := hV.cv
    rw [e, hr] at a; cases a
  go_enter Tryz.func30, Tryz.ntmps30
  go_wp2_with fail
  refine (place_any k n _).mono ?_; rintro e w1 ⟨rfl, hb⟩
  obtain ⟨k0, h2, h3, h4, h5⟩ := after2 hb
  obtain ⟨kc0, kc1⟩ := key_cells k0
  have v0 := cell_of_row w1 L.v 0 _ _ _ ((h3 L.v lv).trans hV.cv)
  have v1 := cell_of_row w1 L.v 1 _ _ _ ((h3 L.v lv).trans hV.cv)
  have v2 := cell_of_row w1 L.v 2 _ _ _ ((h3 L.v lv).trans hV.cv)
  simp at v0 v1 v2
  have hr1 := (h3 L.r lr).trans hr
  have hm1 := (h3 L.m lm).trans hm
  have q1 : w.heap.size ≠ L.r := by omega
  have q2 : w.heap.size + 1 ≠ L.r := by omega
  have q3 : w.heap.size < w1.heap.size := by omega
  have q4 : w.heap.size + 1 < w1.heap.size := by omega
  have q5 : L.r < w1.heap.size := by omega
  have q6 : L.m < w1.heap.size := by omega
  have q7 : L.v < w1.heap.size := by omega
  clear hb h3 hr hm hx
  go_wp2_with fail
  go_region
  go_wp2_with fail
  go_region
  go_wp2_with fail
  have hT : Turn (· = L.r) w (((setB w1 L.r (Obj.map esr' clr')).setRow (w.heap.size + 1) x.cells).alloc (Obj.cells x.cells 60)).drew.drew :=
    (((((Turn.of_below h5 (· = L.r)).setB (b := L.r) (Or.inl rfl) _).setRow (b := w.heap.size + 1) (Or.inr (by omega)) _).alloc _).drew).drew
  refine bodyPost_val (b := w.heap.size + 1) (c := x.cells) (t := 60) (fz := (0, 0)) rfl rfl rfl ?_ (cells_size _) ⟨rfl, ?_, hT⟩
  · show blk _ _ = _
    have : blk (setB w1 L.r (Obj.map esr' clr')) (w.heap.size + 1) = some (.cells Val.zero.cells 60 (0, 0)) := by rw [blk_setB_other _ _ _ _ q2]; exact h2
    rw [blk_drew, blk_drew, blk_alloc_past _ _ _ (by simp [setB_size]; omega)]
    exact setRow_heap _ _ _ _ _ _ this
  · refine hV.maps hT (fun i q => Or.inl q) rfl ⟨esr', clr', ?_, hkr'⟩ ⟨esm, clm, ?_, hkm⟩
    · show blk _ _ = _
      rw [blk_drew, blk_drew, blk_alloc_past _ _ _ (by simp [setB_size]; omega), blk_setRow_other _ _ _ _ (Ne.symm q2), blk_setB_same _ _ _ q5]
    · show blk _ _ = _
      rw [blk_drew, blk_drew, blk_alloc_past _ _ _ (by simp [setB_size]; omega), blk_setRow_other _ _ _ _ (show L.m ≠ w.heap.size + 1 by omega), blk_setB_other _ _ _ _ hne]
      exact hm1

end Go.Proofs.YtfcgkjbifnhjjaaGreatDoor.St

namespace Go.Proofs.YtfcgkjbifnhjjaaGreatDoor.St
open Go.RowKit
set_option linter.unusedVariables false

attribute [local go_sem] blk_alloc_at blk_alloc_past blk_drew blk_drewN blk_setB_same blk_setB_other blk_setRow_other setRow_alloc_at setRow_alloc_past setRow_drewN setRow_drew setB_size setB_cell setB_frozen setB_alloc_past setB_drewN setB_drew run_loadV loadOr_cells run_storeV storeOr_cells cells_size ones_cells cells_0 cells_1 cells_2 cells_16
attribute [local go_sem ↓] execOp_loadV execOp_storeV

theorem vget_neg (L : Lay) (st : VSt) (k n : Int) (h : placeI k n < 0) (w : World) (hV : ViewAt w L st) :
    Calls Tryz.prog 30 #[.pointer (some ⟨L.v, 0, none⟩), keyV k n] w fun e w' => e = .returned (.agg Val.zero.cells) ∧ Below w.heap.size w w' := by
  have hz := zero_val
  go_enter Tryz.func30, Tryz.ntmps30
  go_wp2_with fail
  refine (place_any k n _).mono ?_; rintro e w1 ⟨rfl, hb⟩
  obtain ⟨k0, h2, h3, h4, h5⟩ := after2 hb
  clear hb h3
  go_wp2_with fail
  exact bodyPost_val (b := w.heap.size + 1) rfl rfl rfl (setRow_heap _ _ _ _ _ _ h2) (cells_size _) ⟨rfl, below_setRow h5 (by omega) _⟩

set_option maxRecDepth 100000 in
theorem vget_miss (L : Lay) (st : VSt) (k n : Int) (h : 0 ≤ placeI k n) (hx : st.wr k n = none) (w : World) (hV : ViewAt w L st) :
    Calls Tryz.prog 30 #[.pointer (some ⟨L.v, 0, none⟩), keyV k n] w fun e w' => e = .returned (.agg (storeLook st.base k n).cells) ∧ ViewAt w' L (st.reads k n) ∧ Turn (· = L.r) w w' := by
  obtain ⟨esr, clr, hr, hkr⟩ := hV.cr
  obtain ⟨esm, clm, hm, hkm⟩ := hV.cm
  obtain ⟨esr', clr', hkr', hput⟩ := run_putR (r := L.r) (clk := clr) hkr k n (.bool true)
  have hlook := fun (W : World) (q : blk W L.m = some (.map esm clm)) => run_lookV (r := L.m) hkm k n W q
  simp only [hx, Option.map_none, Option.getD_none, Option.isSome_none] at hlook
  have hz := zero_val
  have lv := lt_of_heap hV.cv
  have lr := lt_of_heap hr
  have lm := lt_of_heap hm
  have hne : L.m ≠ L.r := fun e => hV.ne e.symm
  have vr : L.v ≠ L.r := cells_ne_map hV.cv hr
  go_enter Tryz.func30, Tryz.ntmps30
  go_wp2_with fail
  refine (place_any k n _).mono ?_; rintro e w1 ⟨rfl, hb⟩
  obtain ⟨k0, h2, h3, h4, h5⟩ := after2 hb
  obtain ⟨kc0, kc1⟩ := key_cells k0
  have v0 := cell_of_row w1 L.v 0 _ _ _ ((h3 L.v lv).trans hV.cv)
  have v1 := cell_of_row w1 L.v 1 _ _ _ ((h3 L.v lv).trans hV.cv)
  have v2 := cell_of_row w1 L.v 2 _ _ _ ((h3 L.v lv).trans hV.cv)
  simp at v0 v1 v2
  have hr1 := (h3 L.r lr).trans hr
  have hm1 := (h3 L.m lm).trans hm
  have q1 : w.heap.size ≠ L.r := by omega
  have q2 : w.heap.size + 1 ≠ L.r := by omega
  have q3 : w.heap.size < w1.heap.size := by omega
  have q4 : w.heap.size + 1 < w1.heap.size := by omega
  have q5 : L.r < w1.heap.size := by omega
  have q6 : L.m < w1.heap.size := by omega
  have q7 : L.v < w1.heap.size := by omega
  clear hb h3 hr hm hx
  go_wp2_with fail
  go_region
  go_wp2_with fail
  go_region
  go_wp2_with fail
  have hT2 : Turn (· = L.r) w ((setB w1 L.r (Obj.map esr' clr')).alloc (Obj.cells Val.zero.cells 60)).drew.drew :=
    ((((Turn.of_below h5 (· = L.r)).setB (b := L.r) (Or.inl rfl) _).alloc _).drew).drew
  have b1 : blk ((setB w1 L.r (Obj.map esr' clr')).alloc (Obj.cells Val.zero.cells 60)).drew.drew w.heap.size = some (.cells #[.int .i64 k, .int .i64 n] 57 (0, 0)) := by
    rw [blk_drew, blk_drew, blk_alloc_past _ _ _ (by simp [setB_size]; omega), blk_setB_other _ _ _ _ q1]; exact k0
  have b2 : blk ((setB w1 L.r (Obj.map esr' clr')).alloc (Obj.cells Val.zero.cells 60)).drew.drew (w.heap.size + 1) = some (.cells Val.zero.cells 60 (0, 0)) := by
    rw [blk_drew, blk_drew, blk_alloc_past _ _ _ (by simp [setB_size]; omega), blk_setB_other _ _ _ _ q2]; exact h2
  have b3 : blk ((setB w1 L.r (Obj.map esr' clr')).alloc (Obj.cells Val.zero.cells 60)).drew.drew L.r = some (.map esr' clr') := by
    rw [blk_drew, blk_drew, blk_alloc_past _ _ _ (by simp [setB_size]; omega), blk_setB_same _ _ _ q5]
  have b4 : blk ((setB w1 L.r (Obj.map esr' clr')).alloc (Obj.cells Val.zero.cells 60)).drew.drew L.m = some (.map esm clm) := by
    rw [blk_drew, blk_drew, blk_alloc_past _ _ _ (by simp [setB_size]; omega), blk_setB_other _ _ _ _ hne]; exact hm1
  have hs2 : w1.heap.size + 1 = ((setB w1 L.r (Obj.map esr' clr')).alloc (Obj.cells Val.zero.cells 60)).drew.drew.heap.size := by simp [setB_size]
  generalize ((setB w1 L.r (Obj.map esr' clr')).alloc (Obj.cells Val.zero.cells 60)).drew.drew = W2 at *
  have hv2 := hV.maps hT2 (fun i q => Or.inl q) (st' := st.reads k n) rfl ⟨esr', clr', b3, hkr'⟩ ⟨esm, clm, b4, hkm⟩
  obtain ⟨c0, c1⟩ := key_cells b1
  have c2 := cell_of_row W2 L.v 0 _ _ _ hv2.cv
  simp at c2
  clear kc0 kc1 v0 v1 v2 hlook hput hr1 hm1
  have Hs2 := Lib.hid hs2
  clear hs2
  have hv3 : ViewAt W2.drew L (st.reads k n) := hv2.keep (S := fun _ => False) ((Turn.refl _ _).drew) (fun _ q => q.elim)
  have hT3 : Turn (· = L.r) w W2.drew := hT2.drew
  have d2 : blk W2.drew (w.heap.size + 1) = some (.cells Val.zero.cells 60 (0, 0)) := by rw [blk_drew]; exact b2
  go_still_tail 5, (by kernel_rfl)
  change wpList _ _ _ _ _ W2.drew
  generalize W2.drew = W3 at *
  clear c0 c1 c2 b1 b2 b3 b4
  go_wp2_with fail
  refine (sget_any L.s L.l st.base k n _ hv3.sa).mono ?_; rintro e W4 ⟨rfl, hb⟩
  have e2 : blk W4 (w.heap.size + 1) = some (.cells Val.zero.cells 60 (0, 0)) := (hb.block _ (lt_of_heap d2)).trans d2
  have hT4 : Turn (· = L.r) w W4 := hT3.trans ((Turn.of_below hb (fun i => i = L.r)))
  have hv4 : ViewAt W4 L (st.reads k n) := hv3.below hb
  go_wp2_with fail
  have lw := hV.lts
  have hT5 : Turn (· = w.heap.size + 1) W4 (W4.setRow (w.heap.size + 1) (storeLook st.base k n).cells) := (Turn.refl (· = w.heap.size + 1) _).setRow (b := w.heap.size + 1) (Or.inl rfl) _
  refine bodyPost_val (b := w.heap.size + 1) rfl rfl rfl (setRow_heap _ _ _ _ _ _ e2) (cells_size _) ⟨rfl, hv4.keep hT5 ?_, hT4.setRow (Or.inr (by omega)) _⟩
  rintro i rfl
  omega

/-- What a view tells of a key. -/
def VSt.get (st : VSt) (k n : Int) : Val := if placeI k n < 0 then Val.zero else (st.wr k n).getD (st.base (placeI k n).toNat)
/-- What a view is behind a look at a key. -/
def VSt.saw (st : VSt) (k n : Int) : VSt := if placeI k n < 0 then st else st.reads k n

theorem vget_any (L : Lay) (st : VSt) (k n : Int) (w : World) (hV : ViewAt w L st) :
    Calls Tryz.prog 30 #[.pointer (some ⟨L.v, 0, none⟩), keyV k n] w fun e w' => e = .returned (.agg (st.get k n).cells) ∧ ViewAt w' L (st.saw k n) ∧ Turn (· = L.r) w w' := by
  unfold VSt.get VSt.saw
  by_cases h : placeI k n < 0
  · rw [if_pos h, if_pos h]
    exact (vget_neg L st k n h w hV).mono fun e w' ⟨a, b⟩ => ⟨a, hV.below b, Turn.of_below b _⟩
  · rw [if_neg h, if_neg h]
    cases hx : st.wr k n with
    | some x => exact vget_hit L st k n x (by omega) hx w hV
    | none =>
      have := vget_miss L st k n (by omega) hx w hV
      unfold storeLook at this
      rw [if_neg h] at this
      exact this

/-- What a view is behind a write of a key. -/
def updV (f : Int → Int → Option Val) (a b : Int) (x : Val) : Int → Int → Option Val := fun k n => if k = a ∧ n = b then some x else f k n
def VSt.put (st : VSt) (k n : Int) (x : Val) : VSt := if placeI k n < 0 then st else { st with wr := updV st.wr k n x }

theorem updV_km (f : Int → Int → Option Val) (a b : Int) (x : Val) : (fun k n => (updV f a b x k n).map fun x => Value.agg x.cells) = updK (fun k n => (f k n).map fun x => .agg x.cells) a b (.agg x.cells) := by
  funext k n
  unfold updV updK
  split <;> rfl

set_option maxRecDepth 100000 in
theorem vput_any (L : Lay) (st : VSt) (k n : Int) (x : Val) (w : World) (hV : ViewAt w L st) :
    Calls Tryz.prog 42 #[.pointer (some ⟨L.v, 0, none⟩), keyV k n, .agg x.cells] w fun e w' => e = .returned (.tuple #[]) ∧ ViewAt w' L (st.put k n x) ∧ Turn (· = L.m) w w' := by
  unfold VSt.put
  obtain ⟨esr, clr, hr, hkr⟩ := hV.cr
  obtain ⟨esm, clm, hm, hkm⟩ := hV.cm
  obtain ⟨esm', clm', hkm', hput⟩ := run_putV (r := L.m) (clk := clm) hkm k n (.agg x.cells)
  have lv := lt_of_heap hV.cv
  have lr := lt_of_heap hr
  have lm := lt_of_heap hm
  by_cases h : placeI k n < 0
  · rw [if_pos h]
    have hd : decide (0 ≤ placeI k n) = false := decide_eq_false (by omega)
    go_enter Tryz.func42, Tryz.ntmps42
    go_wp2_with fail
    refine (place_any k n _).mono ?_; rintro e w1 ⟨rfl, hb⟩
    obtain ⟨_, _, _, h4, h5⟩ := after2 hb
    go_wp2_with fail
    go_end0
    exact ⟨rfl, hV.below h5, Turn.of_below h5 _⟩
  · rw [if_neg h]
    have hd : decide (0 ≤ placeI k n) = true := decide_eq_true (by omega)
    go_enter Tryz.func42, Tryz.ntmps42
    go_wp2_with fail
    refine (place_any k n _).mono ?_; rintro e w1 ⟨rfl, hb⟩
    obtain ⟨k0, h2, h3, h4, h5⟩ := after2 hb
    obtain ⟨kc0, kc1⟩ := key_cells k0
    have v2 := cell_of_row w1 L.v 2 _ _ _ ((h3 L.v lv).trans hV.cv)
    simp at v2
    have hm1 := (h3 L.m lm).trans hm
    have q6 : L.m < w1.heap.size := by omega
    have hk2 : KM esm' clm' (fun k' n' => (updV st.wr k n x k' n').map fun x => Value.agg x.cells) := by rw [updV_km]; exact hkm'
    have hT : Turn (· = L.m) w (setB w1 L.m (Obj.map esm' clm')) := (Turn.of_below h5 (· = L.m)).setB (b := L.m) (Or.inl rfl) _
    have c1 : blk (setB w1 L.m (Obj.map esm' clm')) L.m = some (.map esm' clm') := blk_setB_same _ _ _ q6
    have c2 : blk (setB w1 L.m (Obj.map esm' clm')) L.r = some (.map esr clr) := by rw [blk_setB_other _ _ _ _ hV.ne]; exact (h3 L.r lr).trans hr
    have hv' := hV.maps (st' := { st with wr := updV st.wr k n x }) hT (fun i q => Or.inr q) rfl ⟨esr, clr, c2, hkr⟩ ⟨esm', clm', c1, hk2⟩
    clear hb h3 hr hm c1 c2
    go_wp2_with fail
    go_region
    go_wp2_with fail
    go_end0
    exact ⟨rfl, hv'.keep (S := fun _ => False) ((Turn.refl _ _).drew) (fun _ q => q.elim), hT.drew⟩

end Go.Proofs.YtfcgkjbifnhjjaaGreatDoor.St

namespace Go.Proofs.YtfcgkjbifnhjjaaGreatDoor.St
open Go.RowKit
set_option linter.unusedVariables false

theorem all_any (w : World) :
    Calls Tryz.prog 68 #[] w fun e w' => e = .returned (.int .i64 55) ∧ w = w' := by
  have h : aheadI 13 = 55 := by decide
  go_enter Tryz.func68, Tryz.ntmps68
  go_wp2_with fail
  refine (ahead_any 13 (by decide) (by decide) _).mono ?_; rw [h]; rintro e w1 ⟨rfl, rfl⟩
  go_wp2_with fail
  go_ret
  exact ⟨rfl, rfl⟩

/-- The cells of a new store's row. -/
def zeroRow : Array Value := (Array.range 935).map (Val.zero.cells[· % 17]!)

theorem zeroRow_size : zeroRow.size = 935 := by simp [zeroRow]
theorem zeroRow_at (p : Nat) (h : p < 55) : zeroRow.extract (p * 17) (p * 17 + 17) = Val.zero.cells := by
  apply Array.ext
  · simp [zeroRow, cells_size]; omega
  · intro i h1 h2
    have h3 : i < 17 := by simpa [cells_size] using h2
    simp [zeroRow]
    have e : i % 17 = i := by omega
    rw [e, getElem!_pos Val.zero.cells i h2]

theorem run_makeRow (w : World) : (Instr.makeSlice 107 (.int .i64 55) (.int .i64 55)).run Tryz.prog w = .ok (.slice (some ⟨w.heap.size, 0, none⟩) 55 55) (w.alloc (.cells zeroRow 60)) := by
  kernel_rfl

theorem new_any (w : World) :
    Calls Tryz.prog 24 #[] w fun e w' => ∃ s l, e = .returned (.pointer (some ⟨s, 0, none⟩)) ∧ StoreAt w' s l (fun _ => Val.zero) ∧ Below w.heap.size w w' ∧ w.heap.size ≤ s ∧ w.heap.size ≤ l := by
  have hm := run_makeRow
  go_enter Tryz.func24, Tryz.ntmps24
  go_wp2_with fail
  refine (all_any _).mono ?_; rintro e w1 ⟨rfl, rfl⟩
  go_wp2_with fail
  go_ret
  have hb : Below w.heap.size w ((w.alloc (Obj.cells zeroRow 60)).alloc (Obj.cells #[Value.slice (some { block := w.heap.size, off := 0 }) 55 55] 109)) :=
    ((Below.refl _ _).alloc (Nat.le_refl _) _).alloc (by simp) _
  exact ⟨w.heap.size + 1, w.heap.size, rfl, ⟨⟨55, Nat.le_refl _, heap_alloc2_new _ _ _⟩, zeroRow, heap_alloc2_old _ _ _, by rw [zeroRow_size]; exact Nat.le_refl _, zeroRow_at⟩, hb, by omega, by omega⟩

theorem km_empty : KM #[] 0 (fun _ _ => none) := ⟨⟨fun i h => absurd h (by simp), fun i j h _ _ => absurd h (by simp)⟩, fun i h => absurd h (by simp), fun k n v h => absurd h (by simp), fun i j h _ _ => absurd h (by simp)⟩

/-- A view that has read and written nothing. -/
def VSt.fresh (base : Nat → Val) : VSt := ⟨base, fun _ _ => none, fun _ _ => none⟩

theorem look_any (s l : Nat) (base : Nat → Val) (w : World) (hS : StoreAt w s l base) :
    Calls Tryz.prog 60 #[.pointer (some ⟨s, 0, none⟩)] w fun e w' => ∃ L : Lay, L.s = s ∧ L.l = l ∧ e = .returned (.pointer (some ⟨L.v, 0, none⟩)) ∧ ViewAt w' L (VSt.fresh base) ∧ Below w.heap.size w w' ∧ w.heap.size ≤ L.v ∧ w.heap.size ≤ L.r ∧ w.heap.size ≤ L.m := by
  have hmm := @run_makeMap Tryz.prog
  go_enter Tryz.func60, Tryz.ntmps60
  go_wp2_with fail
  go_ret
  have lt := hS.lts
  generalize hW : (((w.alloc (Obj.map #[] 0)).alloc (Obj.map #[] 0)).alloc (Obj.cells #[Value.pointer (some { block := s, off := 0 }), Value.map (some w.heap.size), Value.map (some (w.heap.size + 1))] 105)) = W
  have b1 : blk W w.heap.size = some (.map #[] 0) := by
    rw [← hW, blk_alloc_past _ _ _ (by simp; omega), blk_alloc_past _ _ _ (by simp), blk_alloc_at _ _ _ rfl]
  have b2 : blk W (w.heap.size + 1) = some (.map #[] 0) := by
    rw [← hW, blk_alloc_past _ _ _ (by simp), blk_alloc_at _ _ _ (by simp)]
  have b3 : blk W (w.heap.size + 1 + 1) = some (Obj.cells #[Value.pointer (some { block := s, off := 0 }), Value.map (some w.heap.size), Value.map (some (w.heap.size + 1))] 105) := by
    rw [← hW, blk_alloc_at _ _ _ (by simp)]
  have hb : Below w.heap.size w W := by
    rw [← hW]; exact (((Below.refl _ _).alloc (Nat.le_refl _) _).alloc (by simp) _).alloc (by simp; omega) _
  exact ⟨⟨w.heap.size + 1 + 1, s, l, w.heap.size, w.heap.size + 1⟩, rfl, rfl, rfl, ⟨b3, hS.keep (Turn.of_below hb (fun _ => False)) (fun q => q) (fun q => q), ⟨_, _, b1, km_empty⟩, ⟨_, _, b2, km_empty⟩, by simp⟩, hb, by simp; omega, by simp, by simp⟩

end Go.Proofs.YtfcgkjbifnhjjaaGreatDoor.St

namespace Go.Proofs.YtfcgkjbifnhjjaaGreatDoor.St
open Go.RowKit
set_option linter.unusedVariables false

theorem key_struct : ∃ fs, Tryz.prog.underlying 57 = some (.struct fs) := ⟨_, Tryz.underlying57⟩
theorem k_key_size : (Tryz.prog.info? 57).map (·.size) = some 2 := by kernel_rfl
theorem k_results_key2 {fn : Func} {p q : Tmp} (h : fn.results = #[.cell p 57, .tmp q]) (tmps : Array Value) (w : World) (g : Nat) (t : TypeId) (cs : Array Value) (fr : Nat × Nat)
    (hp : tmps.getD p undef = .pointer (some ⟨g, 0, none⟩)) (hg : w.heap[g]? = some (.cells cs t fr)) (hc : cs.size = 2) :
    (results fn tmps).run Tryz.prog w = .ok (.tuple #[.agg cs, tmps.getD q undef]) w := by
  obtain ⟨fs, hu⟩ := key_struct
  have hp' : tmps[p]?.getD undef = .pointer (some ⟨g, 0, none⟩) := by simpa using hp
  simp [results, h, hp', asAddr, run_loadVar_row w g t 57 cs fr _ hg hu rfl (by rw [k_key_size, hc])]
theorem bodyPost_key2 {fn : Func} {R : Ending → World → Prop} {a : Act} {W : World} {b t : Nat} {c : Array Value} {fz : Nat × Nat} {p q : Tmp} (hr : fn.results = #[.cell p 57, .tmp q]) (hd : a.defers = [])
    (hp : a.tmps.getD p undef = .pointer (some ⟨b, 0, none⟩)) (hb : W.heap[b]? = some (.cells c t fz)) (hc : c.size = 2) (h : R (.returned (.tuple #[.agg c, a.tmps.getD q undef])) W) : bodyPost Tryz.prog fn R .ret a W :=
  bodyPost_ret (k_results_key2 hr a.tmps W b t c fz hp hb hc) hd h

/-- What stands at a place, from kind 13 - d on. -/
def atF : Nat → Int → Option (Int × Int)
  | 0, _ => none
  | d + 1, p => if p < manyI (12 - d : Nat) then some (((12 - d : Nat) : Int), p) else atF d (p - manyI (12 - d : Nat))
def atK (p : Int) : Option (Int × Int) := if p < 0 then none else atF 12 p
def atV (p : Int) : Value := keyV ((atK p).getD (0, 0)).1 ((atK p).getD (0, 0)).2

theorem atF_hit (j : Nat) (p : Int) (h1 : 1 ≤ j) (h2 : j ≤ 12) (h : p < manyI j) : atF (13 - j) p = some ((j : Int), p) := by
  rw [show 13 - j = (12 - j) + 1 by omega, atF, show 12 - (12 - j) = j by omega, if_pos h]
theorem atF_past (j : Nat) (p : Int) (h1 : 1 ≤ j) (h2 : j ≤ 12) (h : ¬ p < manyI j) : atF (13 - j) p = atF (13 - (j + 1)) (p - manyI j) := by
  rw [show 13 - j = (12 - j) + 1 by omega, atF, show 12 - (12 - j) = j by omega, if_neg h, show 13 - (j + 1) = 12 - j by omega]

attribute [local irreducible] Int.lt Int.le
set_option maxRecDepth 20000 in
theorem at_any (p : Int) (hp2 : p ≤ 9223372036854775807) (w : World) :
    Calls Tryz.prog 96 #[.int .i64 p] w fun e w' => e = .returned (.tuple #[atV p, .bool (atK p).isSome]) ∧ Below w.heap.size w w' := by
  by_cases h0 : p < 0
  · have hv : atK p = none := by unfold atK; rw [if_pos h0]
    unfold atV
    rw [hv]
    go_enter Tryz.func96, Tryz.ntmps96
    go_wp2_with fail
    exact bodyPost_key2 (b := w.heap.size) rfl rfl rfl (heap_alloc_new _ _) rfl ⟨rfl, (Below.refl _ _).alloc (Nat.le_refl _) _⟩
  · have hv : atK p = atF 12 p := by unfold atK; rw [if_neg h0]
    go_enter Tryz.func96, Tryz.ntmps96
    go_wp2_with fail
    go_loop [0, 4] (fun x i => ∃ (j : Nat) (r : Int), 1 ≤ j ∧ j ≤ 13 ∧ i = .int .i64 (j : Int) ∧ x = .int .i64 r ∧ 0 ≤ r ∧ r ≤ 9223372036854775807 ∧ atK p = atF (13 - j) r) (fun _ i => 13 - (intOf i).toNat)
    case atStart => exact ⟨1, p, by omega, by omega, rfl, rfl, by omega, hp2, hv⟩
    case round =>
      obtain ⟨j, r, j1, j2, rfl, rfl, r1, r2, hr⟩ := hrel
      have hm := many_bounds j
      by_cases hlt : j ≤ 12
      · have l1 : (j : Int) ≤ 12 := by omega
        go_wp2_with fail
        refine (many_any _ _).mono ?_; rintro e w1 ⟨rfl, rfl⟩
        by_cases hh : r < manyI j
        · have hk := hr.trans (atF_hit j r j1 hlt hh)
          have hvk : atV p = keyV j r := by unfold atV; rw [hk]; rfl
          have hsome : (atK p).isSome = true := by rw [hk]; rfl
          generalize manyI j = M at *
          clear hr hk hv
          go_wp2_with fail
          try rw [hvk, hsome]
          exact bodyPost_key2 (b := w.heap.size) rfl rfl rfl (heap_alloc_new _ _) rfl ⟨rfl, (Below.refl _ _).alloc (Nat.le_refl _) _⟩
        · have hk := hr.trans (atF_past j r j1 hlt hh)
          have Hk := Lib.hid hk
          clear hr hv hk
          go_wp2_with fail
          refine (many_any _ _).mono ?_; rintro e w1 ⟨rfl, rfl⟩
          generalize hM : manyI j = M at *
          clear hM
          go_wp2_with fail
          exact ⟨⟨j + 1, r - M, by omega, by omega, by go_num, rfl, by omega, by omega, Hk.out⟩, by simp [intOf]; omega⟩
      · obtain rfl : j = 13 := by omega
        have hk : atK p = none := hr
        have hvk : atV p = keyV 0 0 := by unfold atV; rw [hk]; rfl
        have hsome : (atK p).isSome = false := by rw [hk]; rfl
        clear hr hk hv
        go_wp2_with fail
        try rw [hvk, hsome]
        exact bodyPost_key2 (b := w.heap.size) rfl rfl rfl (heap_alloc_new _ _) rfl ⟨rfl, (Below.refl _ _).alloc (Nat.le_refl _) _⟩
end Go.Proofs.YtfcgkjbifnhjjaaGreatDoor.St
