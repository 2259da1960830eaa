/- A store and a view of it in memory, as a plain state; the contracts of Store.Get, View.Get, View.Put. No condition but those written in each statement. -/
import Derived.Test.YtfcgkjbifnhjjaaPlace
import Derived.Test.YtfcgkjbifnhjjaaVal
import Derived.BigRegion
namespace Go.Proofs.Ytfcgkjbifnhjjaa.St
open Go.RowKit
set_option linter.unusedVariables false

attribute [local go_sem] blk_alloc_at blk_alloc_past blk_drew blk_drewN blk_setB_same blk_setB_other blk_setRow_other setRow_alloc_at setRow_alloc_past setRow_drewN setRow_drew setB_size setB_cell setB_frozen setB_alloc_past setB_drewN setB_drew run_loadV loadOr_cells run_storeV storeOr_cells cells_size ones_cells cells_0 cells_1 cells_2 cells_16
attribute [local go_sem ↓] execOp_loadV execOp_storeV

/-- Where a view and its store lie. -/
structure Lay where
  v : Nat
  s : Nat
  l : Nat
  r : Nat
  m : Nat

/-- What a store has, what was read and written through its view. -/
structure VSt where
  base : Nat → Val
  rd : Int → Int → Option Value
  wr : Int → Int → Option Val

def VSt.look (st : VSt) (k n : Int) : Val := (st.wr k n).getD (st.base (placeI k n).toNat)

/-- A store in memory. -/
structure StoreAt (W : World) (s l : Nat) (base : Nat → Val) : Prop where
  cs : ∃ cap, 55 ≤ cap ∧ W.heap[s]? = some (.cells #[.slice (some ⟨l, 0, none⟩) 55 cap] 101 (0, 0))
  cl : ∃ c, W.heap[l]? = some (.cells c 47 (0, 0)) ∧ 935 ≤ c.size ∧ ∀ p, p < 55 → (c.extract (p * 17) (p * 17 + 17)) = (base p).cells

theorem lt_of_heap {W : World} {b : Nat} {o : Obj} (h : W.heap[b]? = some o) : b < W.heap.size := (Array.getElem?_eq_some_iff.1 h).1
theorem StoreAt.lts {W : World} {s l : Nat} {base : Nat → Val} (h : StoreAt W s l base) : s < W.heap.size := by
  obtain ⟨_, _, h1⟩ := h.cs; exact lt_of_heap h1

theorem after2 {w w1 : World} {A B : Obj} (hb : Below ((w.alloc A).alloc B).heap.size ((w.alloc A).alloc B) w1) :
    blk w1 w.heap.size = some A ∧ blk w1 (w.heap.size + 1) = some B ∧ (∀ n, n < w.heap.size → blk w1 n = blk w n) ∧ w.heap.size + 2 ≤ w1.heap.size ∧ Below w.heap.size w w1 := by
  have hs : ((w.alloc A).alloc B).heap.size = w.heap.size + 2 := by simp
  refine ⟨?_, ?_, ?_, ?_, ?_⟩
  · unfold blk; rw [hb.block _ (by omega)]; exact heap_alloc2_old w A B
  · unfold blk; rw [hb.block _ (by omega)]; exact heap_alloc2_new w A B
  · intro n hn
    unfold blk
    rw [hb.block _ (by omega), heap_alloc_past _ _ _ (by simp; omega), heap_alloc_past _ _ _ hn]
  · have := hb.size; omega
  · exact (((Below.refl _ _).alloc (Nat.le_refl _) _).alloc (by simp) _).trans (hb.mono (by omega))

theorem key_cells {W : World} {b : Nat} {k n : Int} (h : W.heap[b]? = some (.cells #[.int .i64 k, .int .i64 n] 51 (0, 0))) :
    W.cell? ⟨b, 0, none⟩ = some (.int .i64 k) ∧ W.cell? ⟨b, 1, none⟩ = some (.int .i64 n) :=
  ⟨cell_of_row W b 0 _ _ _ h, cell_of_row W b 1 _ _ _ h⟩

theorem bodyPost_val {fn : Func} {R : Ending → World → Prop} {a : Act} {W : World} {b t : Nat} {c : Array Value} {fz : Nat × Nat} {p : Tmp} (hr : fn.results = #[.cell p 47]) (hd : a.defers = [])
    (hp : a.tmps.getD p undef = .pointer (some ⟨b, 0, none⟩)) (hb : W.heap[b]? = some (.cells c t fz)) (hc : c.size = 17) (h : R (.returned (.agg c)) W) : bodyPost Try.prog fn R .ret a W := by
  obtain ⟨fs, hu⟩ := val_struct
  exact bodyPost_ret (results_cell_row hr a.tmps W b t c fz _ hp hb hu rfl (by rw [val_size, hc])) hd h

theorem sget_no (s l : Nat) (base : Nat → Val) (k n : Int) (h : placeI k n < 0) (w : World) (hS : StoreAt w s l base) :
    Calls Try.prog 58 #[.pointer (some ⟨s, 0, none⟩), keyV k n] w fun e w' => e = .returned (.agg Val.zero.cells) ∧ Below w.heap.size w w' := by
  have hz := zero_val
  go_enter Try.func58, Try.ntmps58
  go_wp2_with fail
  refine (place_any k n _).mono ?_; rintro e w1 ⟨rfl, hb⟩
  obtain ⟨_, h2, _, _, h5⟩ := after2 hb
  clear hb
  go_wp2_with fail
  exact bodyPost_val (b := w.heap.size + 1) rfl rfl rfl (setRow_heap _ _ _ _ _ _ h2) rfl ⟨rfl, below_setRow h5 (by omega) _⟩

theorem sget_yes (s l : Nat) (base : Nat → Val) (k n : Int) (p : Nat) (h : placeI k n = (p : Int)) (hp : p < 55) (w : World) (hS : StoreAt w s l base) :
    Calls Try.prog 58 #[.pointer (some ⟨s, 0, none⟩), keyV k n] w fun e w' => e = .returned (.agg (base p).cells) ∧ Below w.heap.size w w' := by
  obtain ⟨c, hc, hcs, hx⟩ := hS.cl
  have hz := zero_val
  obtain ⟨cap, hcap, hcs0⟩ := hS.cs
  have hls := lt_of_heap hcs0
  have hll := lt_of_heap hc
  have hx := hx p hp
  go_enter Try.func58, Try.ntmps58
  go_wp2_with fail
  refine (place_any k n _).mono ?_; rintro e w1 ⟨rfl, hb⟩
  obtain ⟨_, h2, h3, _, h5⟩ := after2 hb
  have hs1 := cell_of_row w1 s 0 _ _ _ ((h3 s hls).trans hcs0)
  have hl1 := (h3 l hll).trans hc
  have hld := fun (W : World) (q : blk W l = some (.cells c 47 (0, 0))) => run_loadV_row W l p c _ _ q hx
  have hsz : (base p).cells.size = 17 := cells_size _
  have hx1 := Lib.hid hx
  clear hb hx h3 hc
  rw [h]
  have hp0 : (0 : Int) ≤ (p : Int) := by omega
  simp only [List.getElem?_toArray, List.getElem?_cons_zero] at hs1
  go_wp2_with fail
  exact bodyPost_val (b := w.heap.size + 1) rfl rfl rfl (setRow_heap _ _ _ _ _ _ h2) (cells_size _) ⟨rfl, below_setRow h5 (by omega) _⟩

theorem place_lt (k n : Int) : placeI k n < 55 := by
  by_cases h : 0 ≤ placeI k n
  · obtain ⟨h1, h2, h3, h4, h5⟩ := place_range k n h
    rw [h5]
    have : k = 1 ∨ k = 2 ∨ k = 3 ∨ k = 4 ∨ k = 5 ∨ k = 6 ∨ k = 7 ∨ k = 8 ∨ k = 9 ∨ k = 10 ∨ k = 11 ∨ k = 12 := by omega
    rcases this with rfl | rfl | rfl | rfl | rfl | rfl | rfl | rfl | rfl | rfl | rfl | rfl
    all_goals
      simp only [manyI] at h2
      simp at h2
      simp [aheadI, aheadN, manyI]
      omega
  · omega

/-- What a store tells of a key. -/
def storeLook (base : Nat → Val) (k n : Int) : Val := if placeI k n < 0 then Val.zero else base (placeI k n).toNat

theorem sget_any (s l : Nat) (base : Nat → Val) (k n : Int) (w : World) (hS : StoreAt w s l base) :
    Calls Try.prog 58 #[.pointer (some ⟨s, 0, none⟩), keyV k n] w fun e w' => e = .returned (.agg (storeLook base k n).cells) ∧ Below w.heap.size w w' := by
  unfold storeLook
  by_cases h : placeI k n < 0
  · rw [if_pos h]; exact sget_no s l base k n h w hS
  · have := place_lt k n
    rw [if_neg h]
    exact sget_yes s l base k n _ (by omega) (by omega) w hS

/-- A view and its store in memory. -/
structure ViewAt (W : World) (L : Lay) (st : VSt) : Prop where
  cv : W.heap[L.v]? = some (.cells #[.pointer (some ⟨L.s, 0, none⟩), .map (some L.r), .map (some L.m)] 106 (0, 0))
  sa : StoreAt W L.s L.l st.base
  cr : ∃ es clk, W.heap[L.r]? = some (.map es clk) ∧ KM es clk st.rd
  cm : ∃ es clk, W.heap[L.m]? = some (.map es clk) ∧ KM es clk (fun k n => (st.wr k n).map fun x => .agg x.cells)
  ne : L.r ≠ L.m

theorem blk_of_turn {S : Nat → Prop} {W W' : World} (h : Turn S W W') {b : Nat} {o : Obj} (hb : W.heap[b]? = some o) (hS : ¬ S b) : W'.heap[b]? = some o :=
  (h.block b (lt_of_heap hb) hS).trans hb

theorem cells_ne_map {W : World} {b r : Nat} {c : Array Value} {t : TypeId} {fz : Nat × Nat} {es : Array MapEntry} {clk : Nat} (h1 : W.heap[b]? = some (.cells c t fz)) (h2 : W.heap[r]? = some (.map es clk)) : b ≠ r := by
  intro e; rw [e, h2] at h1; cases h1

theorem StoreAt.keep {S : Nat → Prop} {W W' : World} {s l : Nat} {base : Nat → Val} (h : StoreAt W s l base) (hT : Turn S W W') (hs : ¬ S s) (hl : ¬ S l) : StoreAt W' s l base :=
  ⟨by obtain ⟨cap, h0, h1⟩ := h.cs; exact ⟨cap, h0, blk_of_turn hT h1 hs⟩, by obtain ⟨c, h1, h2⟩ := h.cl; exact ⟨c, blk_of_turn hT h1 hl, h2⟩⟩

/-- Only the maps have turned. -/
theorem ViewAt.maps {S : Nat → Prop} {W W' : World} {L : Lay} {st st' : VSt} (h : ViewAt W L st) (hT : Turn S W W') (hS : ∀ i, S i → i = L.r ∨ i = L.m) (hb : st'.base = st.base)
    (cr : ∃ es clk, W'.heap[L.r]? = some (.map es clk) ∧ KM es clk st'.rd) (cm : ∃ es clk, W'.heap[L.m]? = some (.map es clk) ∧ KM es clk (fun k n => (st'.wr k n).map fun x => .agg x.cells)) : ViewAt W' L st' := by
  obtain ⟨esr, clr, hr, _⟩ := h.cr
  obtain ⟨esm, clm, hm, _⟩ := h.cm
  obtain ⟨c, hc, _⟩ := h.sa.cl
  have n1 : ¬ S L.v := fun q => by
    rcases hS _ q with e | e
    · exact cells_ne_map h.cv hr e
    · exact cells_ne_map h.cv hm e
  have n2 : ¬ S L.s := fun q => by
    rcases hS _ q with e | e
    · obtain ⟨_, _, q⟩ := h.sa.cs; exact cells_ne_map q hr e
    · obtain ⟨_, _, q⟩ := h.sa.cs; exact cells_ne_map q hm e
  have n3 : ¬ S L.l := fun q => by
    rcases hS _ q with e | e
    · exact cells_ne_map hc hr e
    · exact cells_ne_map hc hm e
  exact ⟨blk_of_turn hT h.cv n1, by rw [hb]; exact h.sa.keep hT n2 n3, cr, cm, h.ne⟩

/-- Nothing of the view has turned. -/
theorem ViewAt.keep {S : Nat → Prop} {W W' : World} {L : Lay} {st : VSt} (h : ViewAt W L st) (hT : Turn S W W') (hS : ∀ i, S i → i ≠ L.v ∧ i ≠ L.s ∧ i ≠ L.l ∧ i ≠ L.r ∧ i ≠ L.m) : ViewAt W' L st := by
  obtain ⟨esr, clr, hr, kr⟩ := h.cr
  obtain ⟨esm, clm, hm, km⟩ := h.cm
  exact ⟨blk_of_turn hT h.cv (fun q => (hS _ q).1 rfl), h.sa.keep hT (fun q => (hS _ q).2.1 rfl) (fun q => (hS _ q).2.2.1 rfl),
    ⟨esr, clr, blk_of_turn hT hr (fun q => (hS _ q).2.2.2.1 rfl), kr⟩, ⟨esm, clm, blk_of_turn hT hm (fun q => (hS _ q).2.2.2.2 rfl), km⟩, h.ne⟩
theorem ViewAt.below {W W' : World} {L : Lay} {st : VSt} (h : ViewAt W L st) (hT : Below W.heap.size W W') : ViewAt W' L st :=
  h.keep (Turn.of_below hT (fun _ => False)) (fun _ q => q.elim)

theorem ViewAt.lts {W : World} {L : Lay} {st : VSt} (h : ViewAt W L st) : L.v < W.heap.size ∧ L.s < W.heap.size ∧ L.l < W.heap.size ∧ L.r < W.heap.size ∧ L.m < W.heap.size := by
  obtain ⟨esr, clr, hr, _⟩ := h.cr
  obtain ⟨esm, clm, hm, _⟩ := h.cm
  obtain ⟨c, hc, _⟩ := h.sa.cl
  exact ⟨lt_of_heap h.cv, h.sa.lts, lt_of_heap hc, lt_of_heap hr, lt_of_heap hm⟩

/-- Only blocks from B on have turned, and the view lies below B. -/
theorem ViewAt.off {B : Nat} {W W' : World} {L : Lay} {st : VSt} (h : ViewAt W L st) (hT : Turn (fun j => B ≤ j) W W') (lt : L.v < B ∧ L.s < B ∧ L.l < B ∧ L.r < B ∧ L.m < B) : ViewAt W' L st :=
  h.keep hT (fun i q => by omega)
theorem Turn.offS {B : Nat} {S : Nat → Prop} {a w w' : World} (h : Turn S a w) (hT : Turn (fun j => B ≤ j) w w') (hB : a.heap.size ≤ B) : Turn S a w' :=
  ⟨hT.os.trans h.os, hT.tape.trans h.tape, hT.output.trans h.output, Nat.le_trans h.size hT.size, fun i hi hn => (hT.block i (Nat.lt_of_lt_of_le hi h.size) (by omega)).trans (h.block i hi hn)⟩

theorem ViewAt.drew {W : World} {L : Lay} {st : VSt} (h : ViewAt W L st) : ViewAt W.drew L st := h.keep (S := fun _ => False) (Turn.refl _ _).drew (fun _ q => q.elim)
theorem ViewAt.drewN {W : World} {L : Lay} {st : VSt} (h : ViewAt W L st) (n : Nat) : ViewAt (W.drewN n) L st := h.keep (S := fun _ => False) ((Turn.refl _ _).drewN n) (fun _ q => q.elim)
theorem at_drew {W : World} {L : Lay} {st : VSt} {B : Nat} {o : Obj} (b : blk W B = some o) (v : ViewAt W L st) : blk W.drew B = some o ∧ ViewAt W.drew L st ∧ B < W.drew.heap.size :=
  ⟨by rw [blk_drew]; exact b, v.drew, blk_lt b⟩
theorem ViewAt.alloc {W : World} {L : Lay} {st : VSt} (h : ViewAt W L st) (o : Obj) : ViewAt (W.alloc o) L st := h.below ((Below.refl _ _).alloc (Nat.le_refl _) _)

/-- Some key has been read. -/
def VSt.reads (st : VSt) (k n : Int) : VSt := { st with rd := updK st.rd k n (.bool true) }

set_option maxRecDepth 100000 in
theorem vget_hit (L : Lay) (st : VSt) (k n : Int) (x : Val) (h : 0 ≤ placeI k n) (hx : st.wr k n = some x) (w : World) (hV : ViewAt w L st) :
    Calls Try.prog 42 #[.pointer (some ⟨L.v, 0, none⟩), keyV k n] w fun e w' => e = .returned (.agg x.cells) ∧ ViewAt w' L (st.reads k n) ∧ Turn (· = L.r) w w' := by
  obtain ⟨esr, clr, hr, hkr⟩ := hV.cr
  obtain ⟨esm, clm, hm, hkm⟩ := hV.cm
  obtain ⟨esr', clr', hkr', hput⟩ := run_putR (r := L.r) (clk := clr) hkr k n (.bool true)
  have hlook := fun (W : World) (q : blk W L.m = some (.map esm clm)) => run_lookV (r := L.m) hkm k n W q
  simp only [hx, Option.map_some, Option.getD_some, Option.isSome_some] at hlook
  have hz := zero_val
  have lv := lt_of_heap hV.cv
  have lr := lt_of_heap hr
  have lm := lt_of_heap hm
  have hne : L.m ≠ L.r := fun e => hV.ne e.symm
  have vr : L.v ≠ L.r := by
    intro e
    have a := hV.cv
    rw [e, hr] at a; cases a
  go_enter Try.func42, Try.ntmps42
  go_wp2_with fail
  refine (place_any k n _).mono ?_; rintro e w1 ⟨rfl, hb⟩
  obtain ⟨k0, h2, h3, h4, h5⟩ := after2 hb
  obtain ⟨kc0, kc1⟩ := key_cells k0
  have v0 := cell_of_row w1 L.v 0 _ _ _ ((h3 L.v lv).trans hV.cv)
  have v1 := cell_of_row w1 L.v 1 _ _ _ ((h3 L.v lv).trans hV.cv)
  have v2 := cell_of_row w1 L.v 2 _ _ _ ((h3 L.v lv).trans hV.cv)
  simp at v0 v1 v2
  have hr1 := (h3 L.r lr).trans hr
  have hm1 := (h3 L.m lm).trans hm
  have q1 : w.heap.size ≠ L.r := by omega
  have q2 : w.heap.size + 1 ≠ L.r := by omega
  have q3 : w.heap.size < w1.heap.size := by omega
  have q4 : w.heap.size + 1 < w1.heap.size := by omega
  have q5 : L.r < w1.heap.size := by omega
  have q6 : L.m < w1.heap.size := by omega
  have q7 : L.v < w1.heap.size := by omega
  clear hb h3 hr hm hx
  go_wp2_with fail
  go_region
  go_wp2_with fail
  go_region
  go_wp2_with fail
  have hT : Turn (· = L.r) w (((setB w1 L.r (Obj.map esr' clr')).setRow (w.heap.size + 1) x.cells).alloc (Obj.cells x.cells 47)).drew.drew :=
    (((((Turn.of_below h5 (· = L.r)).setB (b := L.r) (Or.inl rfl) _).setRow (b := w.heap.size + 1) (Or.inr (by omega)) _).alloc _).drew).drew
  refine bodyPost_val (b := w.heap.size + 1) (c := x.cells) (t := 47) (fz := (0, 0)) rfl rfl rfl ?_ (cells_size _) ⟨rfl, ?_, hT⟩
  · show blk _ _ = _
    have : blk (setB w1 L.r (Obj.map esr' clr')) (w.heap.size + 1) = some (.cells Val.zero.cells 47 (0, 0)) := by rw [blk_setB_other _ _ _ _ q2]; exact h2
    rw [blk_drew, blk_drew, blk_alloc_past _ _ _ (by simp [setB_size]; omega)]
    exact setRow_heap _ _ _ _ _ _ this
  · refine hV.maps hT (fun i q => Or.inl q) rfl ⟨esr', clr', ?_, hkr'⟩ ⟨esm, clm, ?_, hkm⟩
    · show blk _ _ = _
      rw [blk_drew, blk_drew, blk_alloc_past _ _ _ (by simp [setB_size]; omega), blk_setRow_other _ _ _ _ (Ne.symm q2), blk_setB_same _ _ _ q5]
    · show blk _ _ = _
      rw [blk_drew, blk_drew, blk_alloc_past _ _ _ (by simp [setB_size]; omega), blk_setRow_other _ _ _ _ (show L.m ≠ w.heap.size + 1 by omega), blk_setB_other _ _ _ _ hne]
      exact hm1

end Go.Proofs.Ytfcgkjbifnhjjaa.St
