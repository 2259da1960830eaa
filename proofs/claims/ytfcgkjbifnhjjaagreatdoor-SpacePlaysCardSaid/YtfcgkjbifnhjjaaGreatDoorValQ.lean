/- Objects' values (sixteen numbers and a text) as values of the model, and the operations that load and store them whole, look them up and put them into maps: as rules for the walk. No condition but those written in each statement. -/
import Derived.Test.YtfcgkjbifnhjjaaGreatDoorQ51
import Derived.Deep.MidRow
namespace Go.Proofs.YtfcgkjbifnhjjaaGreatDoor.St
open Go.RowKit

/-- The value of an object. -/
structure Val where
  n : Nat → Int
  s : ByteArray

/-- Its cells. -/
def Val.cells (x : Val) : Array Value :=
  #[.int .i64 (x.n 0), .int .i64 (x.n 1), .int .i64 (x.n 2), .int .i64 (x.n 3), .int .i64 (x.n 4), .int .i64 (x.n 5), .int .i64 (x.n 6), .int .i64 (x.n 7),
    .int .i64 (x.n 8), .int .i64 (x.n 9), .int .i64 (x.n 10), .int .i64 (x.n 11), .int .i64 (x.n 12), .int .i64 (x.n 13), .int .i64 (x.n 14), .int .i64 (x.n 15), .string x.s]

def Val.zero : Val := ⟨fun _ => 0, ByteArray.empty⟩
def Val.set (x : Val) (i : Nat) (v : Int) : Val := ⟨fun j => if j = i then v else x.n j, x.s⟩
def Val.text (x : Val) (s : ByteArray) : Val := ⟨x.n, s⟩

theorem cells_size (x : Val) : x.cells.size = 17 := by simp [Val.cells]
theorem cells_one (x : Val) : x.cells.all (·.oneCell') = true := by simp [Val.cells, Value.oneCell']
theorem cells_0 (x : Val) : x.cells[0]? = some (.int .i64 (x.n 0)) := by simp [Val.cells]
theorem cells_1 (x : Val) : x.cells[1]? = some (.int .i64 (x.n 1)) := by simp [Val.cells]
theorem cells_2 (x : Val) : x.cells[2]? = some (.int .i64 (x.n 2)) := by simp [Val.cells]
theorem cells_16 (x : Val) : x.cells[16]? = some (.string x.s) := by simp [Val.cells]
theorem cells_g0 (x : Val) (h : 0 < x.cells.size) : x.cells[0] = .int .i64 (x.n 0) := by simp [Val.cells]
theorem cells_g1 (x : Val) (h : 1 < x.cells.size) : x.cells[1] = .int .i64 (x.n 1) := by simp [Val.cells]
theorem cells_g2 (x : Val) (h : 2 < x.cells.size) : x.cells[2] = .int .i64 (x.n 2) := by simp [Val.cells]
theorem cells_g16 (x : Val) (h : 16 < x.cells.size) : x.cells[16] = .string x.s := by simp [Val.cells]
theorem cells_set0 (x : Val) (v : Int) : x.cells.setIfInBounds 0 (.int .i64 v) = (x.set 0 v).cells := rfl
theorem cells_set1 (x : Val) (v : Int) : x.cells.setIfInBounds 1 (.int .i64 v) = (x.set 1 v).cells := rfl
theorem cells_set2 (x : Val) (v : Int) : x.cells.setIfInBounds 2 (.int .i64 v) = (x.set 2 v).cells := rfl
theorem cells_text (x : Val) (s : ByteArray) : x.cells.setIfInBounds 16 (.string s) = (x.text s).cells := rfl
theorem cells_zero : #[Value.int .i64 0, .int .i64 0, .int .i64 0, .int .i64 0, .int .i64 0, .int .i64 0, .int .i64 0, .int .i64 0, .int .i64 0, .int .i64 0, .int .i64 0, .int .i64 0, .int .i64 0, .int .i64 0, .int .i64 0, .int .i64 0, .string ByteArray.empty] = Val.zero.cells := rfl

theorem set_n_same (x : Val) (i : Nat) (v : Int) : (x.set i v).n i = v := by simp [Val.set]
theorem set_n_other (x : Val) (i j : Nat) (v : Int) (h : j ≠ i) : (x.set i v).n j = x.n j := by simp [Val.set, h]

theorem val_size : (Tryz.prog.info? 60).map (·.size) = some 17 := by kernel_rfl
theorem val_struct : ∃ fs, Tryz.prog.underlying 60 = some (.struct fs) := ⟨_, Tryz.underlying60⟩

/-- A block of the heap. -/
def blk (W : World) (b : Nat) : Option Obj := W.heap[b]?

/-- A value loaded whole. -/
noncomputable def loadV (p : Value) : Sem Next := do pure (.value (← Instr.loadAt 60 p))
theorem execOp_loadV (ρ : Operand → Value) (dst : Option Tmp) (x : Operand) (ty : TypeId) (pos : String) (after : Array Edge) (guard : Option (Nat × Bool)) :
    execOp ρ { dst, op := .load 60 x, type := ty, pos, after, guard } = loadV (ρ x) := rfl

noncomputable def loadOr (W : World) (p : Value) : Option Obj → Result Next
  | some (.cells c _ _) => if c.size = 17 then .ok (.value (.agg c)) W else (loadV p).run Tryz.prog W
  | _ => (loadV p).run Tryz.prog W

theorem run_loadV (W : World) (b : Nat) : (loadV (.pointer (some ⟨b, 0, none⟩))).run Tryz.prog W = loadOr W (.pointer (some ⟨b, 0, none⟩)) (blk W b) := by
  unfold blk
  cases h : W.heap[b]? with
  | none => rfl
  | some o =>
    cases o with
    | cells c t fz =>
      show _ = if c.size = 17 then _ else _
      split
      · rename_i hs
        obtain ⟨fs, hu⟩ := val_struct
        have := run_loadVar_row (P := Tryz.prog) W b t 60 c fz _ h hu rfl (by rw [val_size, hs])
        unfold loadV
        simp only [Instr.loadAt, Instr.sureAddr, Sem.run_bind, Sem.run_pure, Result.andThen_ok, this]
      · rfl
    | _ => rfl
theorem loadOr_cells (W : World) (p : Value) (c : Array Value) (t : TypeId) (fz : Nat × Nat) (h : c.size = 17) : loadOr W p (some (.cells c t fz)) = .ok (.value (.agg c)) W := if_pos h

def ones (c : Array Value) : Bool := c.all (·.oneCell')
theorem ones_cells (x : Val) : ones x.cells = true := cells_one x

/-- A value stored whole. -/
noncomputable def storeV (p x : Value) : Sem Next := do Instr.storeAt 60 p x; pure .skip
theorem execOp_storeV (ρ : Operand → Value) (dst : Option Tmp) (x y : Operand) (ty : TypeId) (pos : String) (after : Array Edge) (guard : Option (Nat × Bool)) :
    execOp ρ { dst, op := .store 60 x y, type := ty, pos, after, guard } = storeV (ρ x) (ρ y) := rfl

noncomputable def storeOr (W : World) (p x : Value) (b : Nat) (cs : Array Value) : Option Obj → Result Next
  | some (.cells c _ (0, 0)) => if c.size = 17 ∧ cs.size = 17 ∧ ones cs = true then .ok .skip (W.setRow b cs) else (storeV p x).run Tryz.prog W
  | _ => (storeV p x).run Tryz.prog W

theorem run_storeV (W : World) (b : Nat) (cs : Array Value) : (storeV (.pointer (some ⟨b, 0, none⟩)) (.agg cs)).run Tryz.prog W = storeOr W (.pointer (some ⟨b, 0, none⟩)) (.agg cs) b cs (blk W b) := by
  unfold storeOr blk
  split
  · rename_i c t h
    split
    · rename_i hs
      have := run_storeVar_row (P := Tryz.prog) W b t 60 c cs h (by rw [val_size, hs.2.1]) (by rw [hs.1, hs.2.1]) hs.2.2
      unfold storeV
      simp only [Instr.storeAt, Instr.sureAddr, Sem.run_bind, Sem.run_pure, Result.andThen_ok, this]
    · rfl
  · rfl
theorem storeOr_cells (W : World) (p x : Value) (b : Nat) (c cs : Array Value) (t : TypeId) (h1 : c.size = 17) (h2 : cs.size = 17) (h3 : ones cs = true) : storeOr W p x b cs (some (.cells c t (0, 0))) = .ok .skip (W.setRow b cs) := if_pos ⟨h1, h2, h3⟩

/-! ### Blocks behind steps -/
theorem heap_alloc_at (w : World) (o : Obj) (n : Nat) (h : n = w.heap.size) : (w.alloc o).heap[n]? = some o := by
  subst h; exact heap_alloc_new w o
theorem heap_alloc_past (w : World) (o : Obj) (n : Nat) (h : n < w.heap.size) : (w.alloc o).heap[n]? = w.heap[n]? := Below.heap_alloc w o n h
theorem blk_alloc_at (w : World) (o : Obj) (n : Nat) (h : n = w.heap.size) : blk (w.alloc o) n = some o := by unfold blk; exact heap_alloc_at w o n h
theorem blk_alloc_past (w : World) (o : Obj) (n : Nat) (h : n < w.heap.size) : blk (w.alloc o) n = blk w n := by unfold blk; exact heap_alloc_past w o n h
theorem blk_drew (w : World) (b : Nat) : blk w.drew b = blk w b := by unfold blk; rw [heap_drew]
theorem blk_drewN (w : World) (n b : Nat) : blk (w.drewN n) b = blk w b := by unfold blk; rw [World.heap_drewN]
theorem setRow_alloc_at (w : World) (c cs : Array Value) (t : TypeId) (n : Nat) (h : n = w.heap.size) : (w.alloc (.cells c t)).setRow n cs = w.alloc (.cells cs t) := by
  subst h
  unfold World.setRow World.alloc
  congr 1
  apply Array.ext_getElem?
  intro k
  simp only [Array.getElem?_modify, Array.getElem?_push]
  by_cases hk : k = w.heap.size
  · subst hk; simp
  · simp [hk, Ne.symm hk]
theorem setRow_alloc_past (w : World) (o : Obj) (cs : Array Value) (n : Nat) (hn : n < w.heap.size) : (w.alloc o).setRow n cs = (w.setRow n cs).alloc o := by
  unfold World.setRow World.alloc
  congr 1
  apply Array.ext_getElem?
  intro k
  simp only [Array.getElem?_modify, Array.getElem?_push, Array.size_modify]
  by_cases hk : k = w.heap.size
  · subst hk
    simp [Nat.ne_of_lt hn]
  · simp [hk]
theorem setRow_drewN (w : World) (n : Nat) (cs : Array Value) (k : Nat) : (w.drewN k).setRow n cs = (w.setRow n cs).drewN k := rfl
theorem setRow_drew (w : World) (n : Nat) (cs : Array Value) : w.drew.setRow n cs = (w.setRow n cs).drew := rfl

/-- A block put in another's place. -/
def setB (w : World) (b : Nat) (o : Obj) : World := { w with heap := w.heap.setIfInBounds b o }
theorem setB_size (w : World) (b : Nat) (o : Obj) : (setB w b o).heap.size = w.heap.size := by simp [setB]
theorem setB_same (w : World) (b : Nat) (o : Obj) (h : b < w.heap.size) : (setB w b o).heap[b]? = some o := by simp [setB, h]
theorem setB_other (w : World) (b n : Nat) (o : Obj) (h : n ≠ b) : (setB w b o).heap[n]? = w.heap[n]? := by simp [setB, Ne.symm h]
theorem setB_cell (w : World) (b n i : Nat) (o : Obj) (h : n ≠ b) : (setB w b o).cell? ⟨n, i, none⟩ = w.cell? ⟨n, i, none⟩ := by simp [World.cell?, setB_other w b n o h]
theorem setB_frozen (w : World) (b n i : Nat) (o : Obj) (h : n ≠ b) : (setB w b o).frozen? ⟨n, i, none⟩ = w.frozen? ⟨n, i, none⟩ := by simp [World.frozen?, setB_other w b n o h]
theorem blk_setB_same (w : World) (b : Nat) (o : Obj) (h : b < w.heap.size) : blk (setB w b o) b = some o := by unfold blk; exact setB_same w b o h
theorem blk_setB_other (w : World) (b n : Nat) (o : Obj) (h : n ≠ b) : blk (setB w b o) n = blk w n := by unfold blk; exact setB_other w b n o h
theorem blk_setCell_other (w : World) (a : Addr) (u : Value) (k : Nat) (h : k ≠ a.block) : blk (w.setCell a u) k = blk w k := by unfold blk; exact Below.heap_setCell w a u k h
theorem blk_setRow_other (w : World) (g k : Nat) (cs : Array Value) (h : k ≠ g) : blk (w.setRow g cs) k = blk w k := by unfold blk; exact setRow_other w g k cs h
theorem setB_alloc_past (w : World) (o x : Obj) (n : Nat) (hn : n < w.heap.size) : setB (w.alloc o) n x = (setB w n x).alloc o := by
  unfold setB World.alloc
  congr 1
  apply Array.ext_getElem?
  intro k
  simp only [Array.getElem?_setIfInBounds, Array.getElem?_push, Array.size_push, Array.size_setIfInBounds]
  by_cases hk : k = w.heap.size
  · subst hk
    rw [if_neg (by omega)]; simp
  · by_cases hk2 : n = k
    · subst hk2; simp [hn, hk]; omega
    · simp [hk, hk2]
theorem setB_drewN (w : World) (n : Nat) (x : Obj) (k : Nat) : setB (w.drewN k) n x = (setB w n x).drewN k := rfl
theorem setB_drew (w : World) (n : Nat) (x : Obj) : setB w.drew n x = (setB w n x).drew := rfl
theorem Turn.setB {S : Nat → Prop} {a w : World} (h : Turn S a w) {b : Nat} (hp : S b ∨ a.heap.size ≤ b) (o : Obj) : Turn S a (setB w b o) :=
  ⟨h.os, h.tape, h.output, by rw [setB_size]; exact h.size, fun i hi hn => (setB_other w b i o (by
    rintro rfl
    rcases hp with hp | hp
    · exact hn hp
    · omega)).trans (h.block i hi hn)⟩
theorem Turn.setRow {S : Nat → Prop} {a w : World} (h : Turn S a w) {b : Nat} (hp : S b ∨ a.heap.size ≤ b) (cs : Array Value) : Turn S a (w.setRow b cs) :=
  ⟨h.os, h.tape, h.output, by simp; exact h.size, fun i hi hn => (setRow_other w b i cs (by
    rintro rfl
    rcases hp with hp | hp
    · exact hn hp
    · omega)).trans (h.block i hi hn)⟩

theorem below_setRow {B : Nat} {a w : World} (h : Below B a w) {b : Nat} (hp : B ≤ b) (cs : Array Value) : Below B a (w.setRow b cs) :=
  h.trans ⟨rfl, rfl, rfl, by simp, fun k hk => setRow_other w b k cs (by omega)⟩

theorem frozen_blk {W : World} {b : Nat} {c : Array Value} {t : TypeId} (h : blk W b = some (.cells c t (0, 0))) (i : Nat) : W.frozen? ⟨b, i, none⟩ = false := by
  unfold blk at h
  simp [World.frozen?, h]
theorem blk_setCell_same {W : World} {b : Nat} {c : Array Value} {t : TypeId} {fz : Nat × Nat} (h : blk W b = some (.cells c t fz)) (i : Nat) (v : Value) : blk (W.setCell ⟨b, i, none⟩ v) b = some (.cells (c.setIfInBounds i v) t fz) := by
  unfold blk at *
  simp [World.setCell, Array.getElem?_modify, h]
theorem blk_lt {W : World} {b : Nat} {o : Obj} (h : blk W b = some o) : b < W.heap.size := (Array.getElem?_eq_some_iff.1 h).1
theorem blk_below {B : Nat} {W W' : World} {b : Nat} {o : Obj} (hT : Below B W W') (h : blk W b = some o) (hb : b < B) : blk W' b = some o := (hT.block b hb).trans h

/-- A value loaded whole out of a row of values. -/
theorem run_loadV_row (W : World) (l p : Nat) (c : Array Value) (x : Val) (fz : Nat × Nat) (hl : blk W l = some (.cells c 60 fz)) (hx : c.extract (p * 17) (p * 17 + 17) = x.cells) :
    (loadV (.pointer (some ⟨l, p * 17, none⟩))).run Tryz.prog W = .ok (.value (.agg x.cells)) W := by
  obtain ⟨fs, hu⟩ := val_struct
  have hr := World.rangeAt_of_block (w := W) hl (p * 17) 17
  rw [hx] at hr
  have := run_loadVar_mid (P := Tryz.prog) W l (p * 17) 60 x.cells.toList _ hr hu rfl (by rw [val_size]; simp [Val.cells])
  unfold loadV
  simp only [Instr.loadAt, Instr.sureAddr, Sem.run_bind, Sem.run_pure, Result.andThen_ok, this]

/-! ### Maps at the operation -/
theorem zero_val (W : World) : (zeroValue 60).run Tryz.prog W = .ok (.agg Val.zero.cells) W := by kernel_rfl

theorem run_putR {r : Nat} {es : Array MapEntry} {clk : Nat} {f : Int → Int → Option Value} (h : KM es clk f) (a b : Int) (v : Value) :
    ∃ es' clk', KM es' clk' (updK f a b v) ∧ ∀ W : World, blk W r = some (.map es clk) → (Instr.mapUpdate 103 (.map (some r)) (keyV a b) v).run Tryz.prog W = .ok () (setB W r (.map es' clk')) := by
  obtain ⟨es', clk', h1, h2⟩ := run_update_all (r := r) (clk := clk) Tryz.underlying103 h a b v
  exact ⟨es', clk', h1, fun W hb => h2 W hb⟩
theorem run_putV {r : Nat} {es : Array MapEntry} {clk : Nat} {f : Int → Int → Option Value} (h : KM es clk f) (a b : Int) (v : Value) :
    ∃ es' clk', KM es' clk' (updK f a b v) ∧ ∀ W : World, blk W r = some (.map es clk) → (Instr.mapUpdate 102 (.map (some r)) (keyV a b) v).run Tryz.prog W = .ok () (setB W r (.map es' clk')) := by
  obtain ⟨es', clk', h1, h2⟩ := run_update_all (r := r) (clk := clk) Tryz.underlying102 h a b v
  exact ⟨es', clk', h1, fun W hb => h2 W hb⟩
theorem run_lookV {r : Nat} {es : Array MapEntry} {clk : Nat} {f : Int → Int → Option Value} (h : KM es clk f) (a b : Int) (W : World) (hb : blk W r = some (.map es clk)) :
    (Instr.lookup 102 (.map (some r)) (keyV a b) true).run Tryz.prog W = .ok (.tuple #[(f a b).getD (.agg Val.zero.cells), .bool (f a b).isSome]) W :=
  run_look Tryz.underlying102 h a b W hb (zero_val W)

end Go.Proofs.YtfcgkjbifnhjjaaGreatDoor.St
