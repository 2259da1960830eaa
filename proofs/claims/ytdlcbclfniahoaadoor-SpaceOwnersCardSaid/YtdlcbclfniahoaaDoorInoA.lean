/- The contracts of package inode: key, table, get, Is, Type, Links, Size, over a view in memory. No condition but those written in each statement. -/
import Derived.Test.YtdlcbclfniahoaaDoorNew
import Derived.Deep.RegionWith
namespace Go.Proofs.YtdlcbclfniahoaaDoor.St
open Go.RowKit
set_option linter.unusedVariables false

attribute [local go_sem] blk_alloc_at blk_alloc_past blk_drew blk_drewN blk_setB_same blk_setB_other blk_setRow_other setRow_alloc_at setRow_alloc_past setRow_drewN setRow_drew setB_size setB_cell setB_frozen setB_alloc_past setB_drewN setB_drew run_loadV loadOr_cells run_storeV storeOr_cells cells_size ones_cells cells_0 cells_1 cells_2 cells_16 cells_g0 cells_g1 cells_g2 cells_g16 cells_set0 cells_set1 cells_set2 cells_text
attribute [local go_sem ↓] execOp_loadV execOp_storeV

theorem key_size : (Tryd.prog.info? 48).map (·.size) = some 2 := by kernel_rfl
theorem bodyPost_key {fn : Func} {R : Ending → World → Prop} {a : Act} {W : World} {b t : Nat} {c : Array Value} {fz : Nat × Nat} {p : Tmp} (hr : fn.results = #[.cell p 48]) (hd : a.defers = [])
    (hp : a.tmps.getD p undef = .pointer (some ⟨b, 0, none⟩)) (hb : W.heap[b]? = some (.cells c t fz)) (hc : c.size = 2) (h : R (.returned (.agg c)) W) : bodyPost Tryd.prog fn R .ret a W :=
  bodyPost_ret (results_cell_row hr a.tmps W b t c fz _ hp hb Tryd.underlying48 rfl (by rw [key_size, hc])) hd h

theorem results_val2 {fn : Func} {p q : Tmp} (h : fn.results = #[.cell p 45, .tmp q]) (tmps : Array Value) (w : World) (g : Nat) (t : TypeId) (cs : Array Value) (fr : Nat × Nat)
    (hp : tmps.getD p undef = .pointer (some ⟨g, 0, none⟩)) (hg : w.heap[g]? = some (.cells cs t fr)) (hc : cs.size = 17) :
    (results fn tmps).run Tryd.prog w = .ok (.tuple #[.agg cs, tmps.getD q undef]) w := by
  obtain ⟨fs, hu⟩ := val_struct
  have hp' : tmps[p]?.getD undef = .pointer (some ⟨g, 0, none⟩) := by simpa using hp
  simp [results, h, hp', asAddr, run_loadVar_row w g t 45 cs fr _ hg hu rfl (by rw [val_size, hc])]
theorem bodyPost_val2 {fn : Func} {R : Ending → World → Prop} {a : Act} {W : World} {b t : Nat} {c : Array Value} {fz : Nat × Nat} {p q : Tmp} (hr : fn.results = #[.cell p 45, .tmp q]) (hd : a.defers = [])
    (hp : a.tmps.getD p undef = .pointer (some ⟨b, 0, none⟩)) (hb : W.heap[b]? = some (.cells c t fz)) (hc : c.size = 17) (h : R (.returned (.tuple #[.agg c, a.tmps.getD q undef])) W) : bodyPost Tryd.prog fn R .ret a W :=
  bodyPost_ret (results_val2 hr a.tmps W b t c fz hp hb hc) hd h

/-- inode.get: the value and whether there is one; what was read. -/
def iValIn (x : Val) : Val := if x.n 0 = 0 then Val.zero else x
def iVal (st : VSt) (i : Int) : Val := if i < 1 ∨ 16 ≤ i then Val.zero else iValIn (st.get 10 i)
def iHas (st : VSt) (i : Int) : Bool := if i < 1 ∨ 16 ≤ i then false else !((st.get 10 i).n 0 == 0)
def iSaw (st : VSt) (i : Int) : VSt := if i < 1 ∨ 16 ≤ i then st else st.saw 10 i

theorem after1 {w w1 : World} {A : Obj} (hb : Below (w.alloc A).heap.size (w.alloc A) w1) :
    blk w1 w.heap.size = some A ∧ w.heap.size + 1 ≤ w1.heap.size ∧ Below w.heap.size w w1 := by
  have hs : (w.alloc A).heap.size = w.heap.size + 1 := by simp
  refine ⟨?_, ?_, ?_⟩
  · unfold blk; rw [hb.block _ (by omega)]; exact heap_alloc_new w A
  · have := hb.size; omega
  · exact ((Below.refl _ _).alloc (Nat.le_refl _) _).trans (hb.mono (by omega))

end Go.Proofs.YtdlcbclfniahoaaDoor.St
