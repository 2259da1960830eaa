/- The contracts of package inode: key, table, get, Is, Type, Links, Size, over a view in memory. No condition but those written in each statement. -/
import Derived.Test.YtfcgkjbifnhjjaaNew
import Derived.Deep.RegionWith
namespace Go.Proofs.Ytfcgkjbifnhjjaa.St
open Go.RowKit
set_option linter.unusedVariables false

attribute [local go_sem] blk_alloc_at blk_alloc_past blk_drew blk_drewN blk_setB_same blk_setB_other blk_setRow_other setRow_alloc_at setRow_alloc_past setRow_drewN setRow_drew setB_size setB_cell setB_frozen setB_alloc_past setB_drewN setB_drew run_loadV loadOr_cells run_storeV storeOr_cells cells_size ones_cells cells_0 cells_1 cells_2 cells_16 cells_g0 cells_g1 cells_g2 cells_g16 cells_set0 cells_set1 cells_set2 cells_text
attribute [local go_sem ↓] execOp_loadV execOp_storeV

theorem key_size : (Try.prog.info? 51).map (·.size) = some 2 := by kernel_rfl
theorem bodyPost_key {fn : Func} {R : Ending → World → Prop} {a : Act} {W : World} {b t : Nat} {c : Array Value} {fz : Nat × Nat} {p : Tmp} (hr : fn.results = #[.cell p 51]) (hd : a.defers = [])
    (hp : a.tmps.getD p undef = .pointer (some ⟨b, 0, none⟩)) (hb : W.heap[b]? = some (.cells c t fz)) (hc : c.size = 2) (h : R (.returned (.agg c)) W) : bodyPost Try.prog fn R .ret a W :=
  bodyPost_ret (results_cell_row hr a.tmps W b t c fz _ hp hb Try.underlying51 rfl (by rw [key_size, hc])) hd h

theorem results_val2 {fn : Func} {p q : Tmp} (h : fn.results = #[.cell p 47, .tmp q]) (tmps : Array Value) (w : World) (g : Nat) (t : TypeId) (cs : Array Value) (fr : Nat × Nat)
    (hp : tmps.getD p undef = .pointer (some ⟨g, 0, none⟩)) (hg : w.heap[g]? = some (.cells cs t fr)) (hc : cs.size = 17) :
    (results fn tmps).run Try.prog w = .ok (.tuple #[.agg cs, tmps.getD q undef]) w := by
  obtain ⟨fs, hu⟩ := val_struct
  have hp' : tmps[p]?.getD undef = .pointer (some ⟨g, 0, none⟩) := by simpa using hp
  simp [results, h, hp', asAddr, run_loadVar_row w g t 47 cs fr _ hg hu rfl (by rw [val_size, hc])]
theorem bodyPost_val2 {fn : Func} {R : Ending → World → Prop} {a : Act} {W : World} {b t : Nat} {c : Array Value} {fz : Nat × Nat} {p q : Tmp} (hr : fn.results = #[.cell p 47, .tmp q]) (hd : a.defers = [])
    (hp : a.tmps.getD p undef = .pointer (some ⟨b, 0, none⟩)) (hb : W.heap[b]? = some (.cells c t fz)) (hc : c.size = 17) (h : R (.returned (.tuple #[.agg c, a.tmps.getD q undef])) W) : bodyPost Try.prog fn R .ret a W :=
  bodyPost_ret (results_val2 hr a.tmps W b t c fz hp hb hc) hd h

theorem ikey_any (i : Int) (w : World) :
    Calls Try.prog 45 #[.int .i64 i] w fun e w' => e = .returned (keyV 10 i) ∧ Below w.heap.size w w' := by
  go_enter Try.func45, Try.ntmps45
  go_wp2_with fail
  exact bodyPost_key (b := w.heap.size) rfl rfl rfl (heap_alloc_new _ _) rfl ⟨rfl, (Below.refl _ _).alloc (Nat.le_refl _) _⟩

theorem itable_any (w : World) :
    Calls Try.prog 43 #[] w fun e w' => e = .returned (keyV 9 0) ∧ Below w.heap.size w w' := by
  go_enter Try.func43, Try.ntmps43
  go_wp2_with fail
  exact bodyPost_key (b := w.heap.size) rfl rfl rfl (heap_alloc_new _ _) rfl ⟨rfl, (Below.refl _ _).alloc (Nat.le_refl _) _⟩

/-- inode.get: the value and whether there is one; what was read. -/
def iValIn (x : Val) : Val := if x.n 0 = 0 then Val.zero else x
def iVal (st : VSt) (i : Int) : Val := if i < 1 ∨ 16 ≤ i then Val.zero else iValIn (st.get 10 i)
def iHas (st : VSt) (i : Int) : Bool := if i < 1 ∨ 16 ≤ i then false else !((st.get 10 i).n 0 == 0)
def iSaw (st : VSt) (i : Int) : VSt := if i < 1 ∨ 16 ≤ i then st else st.saw 10 i

theorem after1 {w w1 : World} {A : Obj} (hb : Below (w.alloc A).heap.size (w.alloc A) w1) :
    blk w1 w.heap.size = some A ∧ w.heap.size + 1 ≤ w1.heap.size ∧ Below w.heap.size w w1 := by
  have hs : (w.alloc A).heap.size = w.heap.size + 1 := by simp
  refine ⟨?_, ?_, ?_⟩
  · unfold blk; rw [hb.block _ (by omega)]; exact heap_alloc_new w A
  · have := hb.size; omega
  · exact ((Below.refl _ _).alloc (Nat.le_refl _) _).trans (hb.mono (by omega))

theorem iget_out (L : Lay) (st : VSt) (i : Int) (h : decide (i < 1) = true ∨ decide (i < 1) = false ∧ decide (16 ≤ i) = true) (w : World) (hV : ViewAt w L st) :
    Calls Try.prog 48 #[.pointer (some ⟨L.v, 0, none⟩), .int .i64 i] w fun e w' => e = .returned (.tuple #[.agg Val.zero.cells, .bool false]) ∧ ViewAt w' L st ∧ Turn (· = L.r) w w' := by
  have hz := zero_val
  have lt := hV.lts
  rcases h with h | ⟨h1, h2⟩
  all_goals
    go_enter Try.func48, Try.ntmps48
    go_wp2_with fail
    have hb : Below w.heap.size w (w.alloc (.cells Val.zero.cells 47)) := (Below.refl _ _).alloc (Nat.le_refl _) _
    exact bodyPost_val2 (b := w.heap.size) rfl rfl rfl (heap_alloc_new _ _) (cells_size _) ⟨rfl, hV.below hb, Turn.of_below hb _⟩

theorem iget_in (L : Lay) (st : VSt) (i : Int) (h1 : decide (i < 1) = false) (h2 : decide (16 ≤ i) = false) (w : World) (hV : ViewAt w L st) :
    Calls Try.prog 48 #[.pointer (some ⟨L.v, 0, none⟩), .int .i64 i] w fun e w' => e = .returned (.tuple #[.agg (iValIn (st.get 10 i)).cells, .bool (!((st.get 10 i).n 0 == 0))]) ∧ ViewAt w' L (st.saw 10 i) ∧ Turn (· = L.r) w w' := by
  have hz := zero_val
  have lt := hV.lts
  go_enter Try.func48, Try.ntmps48
  go_wp2_with fail
  refine (ikey_any i _).mono ?_; rintro e w1 ⟨rfl, hb⟩
  obtain ⟨b0, s0, t0⟩ := after1 hb
  have hv1 := hV.below t0
  clear hb
  go_wp2_with fail
  refine (vget_any L st 10 i _ hv1).mono ?_; rintro e w2 ⟨rfl, hv2, t2⟩
  have b1 : blk w2 w.heap.size = some (.cells Val.zero.cells 47 (0, 0)) := blk_of_turn t2 b0 (by omega)
  have s2 := t2.size
  have q1 : w.heap.size < w2.heap.size := by omega
  generalize hg : st.get 10 i = x at *
  cases hx : (x.n 0 == 0)
  · have hx' : iValIn x = x := by unfold iValIn; rw [if_neg (by simpa using hx)]
    go_wp2_with fail
    have tl : Turn (fun j => w.heap.size ≤ j) w2 ((w2.setRow w.heap.size x.cells).alloc (Obj.cells x.cells 47)) := ((Turn.refl _ _).setRow (Or.inl (Nat.le_refl _)) _).alloc _
    refine bodyPost_val2 (b := w.heap.size) (c := x.cells) (t := 47) (fz := (0, 0)) rfl rfl rfl ?_ (cells_size _) ⟨by rw [hg, hx', hx]; rfl, hv2.off tl lt, ((Turn.of_below t0 _).trans t2).offS tl (Nat.le_refl _)⟩
    rw [heap_alloc_past _ _ _ (by simp; omega)]; exact setRow_heap _ _ _ _ _ _ b1
  · have hx' : iValIn x = Val.zero := by unfold iValIn; rw [if_pos (by simpa using hx)]
    go_wp2_with fail
    have tl : Turn (fun j => w.heap.size ≤ j) w2 ((w2.setRow w.heap.size Val.zero.cells).alloc (Obj.cells x.cells 47)) := ((Turn.refl _ _).setRow (Or.inl (Nat.le_refl _)) _).alloc _
    refine bodyPost_val2 (b := w.heap.size) (c := Val.zero.cells) (t := 47) (fz := (0, 0)) rfl rfl rfl ?_ (cells_size _) ⟨by rw [hg, hx', hx]; rfl, hv2.off tl lt, ((Turn.of_below t0 _).trans t2).offS tl (Nat.le_refl _)⟩
    rw [heap_alloc_past _ _ _ (by simp; omega)]; exact setRow_heap _ _ _ _ _ _ b1

theorem iget_any (L : Lay) (st : VSt) (i : Int) (w : World) (hV : ViewAt w L st) :
    Calls Try.prog 48 #[.pointer (some ⟨L.v, 0, none⟩), .int .i64 i] w fun e w' => e = .returned (.tuple #[.agg (iVal st i).cells, .bool (iHas st i)]) ∧ ViewAt w' L (iSaw st i) ∧ Turn (· = L.r) w w' := by
  unfold iVal iHas iSaw
  by_cases h : i < 1 ∨ 16 ≤ i
  · rw [if_pos h, if_pos h, if_pos h]; exact iget_out L st i (by simp; omega) w hV
  · rw [if_neg h, if_neg h, if_neg h]; exact iget_in L st i (by simp; omega) (by simp; omega) w hV
end Go.Proofs.Ytfcgkjbifnhjjaa.St
