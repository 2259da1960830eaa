/- Writes (a key and a value) as values of the model; lists of them. No condition but those written in each statement. -/
import Derived.Test.YtfcgkjbifnhjjaaGreatDoorPutSQ
import Derived.Laws.OwnMore
namespace Go.Proofs.YtfcgkjbifnhjjaaGreatDoor.St
open Go.RowKit
set_option linter.unusedVariables false

/-- A write's cells. -/
def wcells (k m : Int) (x : Val) : Array Value :=
  #[.int .i64 k, .int .i64 m, .int .i64 (x.n 0), .int .i64 (x.n 1), .int .i64 (x.n 2), .int .i64 (x.n 3), .int .i64 (x.n 4), .int .i64 (x.n 5), .int .i64 (x.n 6), .int .i64 (x.n 7),
    .int .i64 (x.n 8), .int .i64 (x.n 9), .int .i64 (x.n 10), .int .i64 (x.n 11), .int .i64 (x.n 12), .int .i64 (x.n 13), .int .i64 (x.n 14), .int .i64 (x.n 15), .string x.s]
theorem wcells_size (k m : Int) (x : Val) : (wcells k m x).size = 19 := by simp [wcells]
theorem wcells_one (k m : Int) (x : Val) : (wcells k m x).all (·.oneCell') = true := by simp [wcells, Value.oneCell']
theorem wcells_ext (k m : Int) (x : Val) : (wcells k m x).extract 2 (2 + 17) = x.cells := by
  apply Array.toList_inj.1
  simp [wcells, Val.cells]
theorem wcells_text (k m : Int) (x : Val) (s : ByteArray) : (wcells k m x).setIfInBounds 18 (.string s) = wcells k m (x.text s) := rfl
theorem write_size : (Tryz.prog.info? 62).map (·.size) = some 19 := by kernel_rfl
theorem write_struct : ∃ fs, Tryz.prog.underlying 62 = some (.struct fs) := ⟨_, Tryz.underlying62⟩
theorem run_loadV_mid (W : World) (l o : Nat) (c : Array Value) (x : Val) (t : TypeId) (fz : Nat × Nat) (hl : blk W l = some (.cells c t fz)) (hx : c.extract o (o + 17) = x.cells) :
    (loadV (.pointer (some ⟨l, o, none⟩))).run Tryz.prog W = .ok (.value (.agg x.cells)) W := by
  obtain ⟨fs, hu⟩ := val_struct
  have hr := World.rangeAt_of_block (w := W) hl o 17
  rw [hx] at hr
  have := run_loadVar_mid (P := Tryz.prog) W l o 60 x.cells.toList _ hr hu rfl (by rw [val_size]; simp [Val.cells])
  unfold loadV
  simp only [Instr.loadAt, Instr.sureAddr, Sem.run_bind, Sem.run_pure, Result.andThen_ok, this]
/-- A write loaded whole, stored whole. -/
noncomputable def loadW (p : Value) : Sem Next := do pure (.value (← Instr.loadAt 62 p))
theorem execOp_loadW (ρ : Operand → Value) (dst : Option Tmp) (x : Operand) (ty : TypeId) (pos : String) (after : Array Edge) (guard : Option (Nat × Bool)) :
    execOp ρ { dst, op := .load 62 x, type := ty, pos, after, guard } = loadW (ρ x) := rfl
noncomputable def storeW (p x : Value) : Sem Next := do Instr.storeAt 62 p x; pure .skip
theorem execOp_storeW (ρ : Operand → Value) (dst : Option Tmp) (x y : Operand) (ty : TypeId) (pos : String) (after : Array Edge) (guard : Option (Nat × Bool)) :
    execOp ρ { dst, op := .store 62 x y, type := ty, pos, after, guard } = storeW (ρ x) (ρ y) := rfl
theorem run_loadW (W : World) (l : Nat) (k m : Int) (x : Val) (t : TypeId) (fz : Nat × Nat) (hl : blk W l = some (.cells (wcells k m x) t fz)) :
    (loadW (.pointer (some ⟨l, 0, none⟩))).run Tryz.prog W = .ok (.value (.agg (wcells k m x))) W := by
  obtain ⟨fs, hu⟩ := write_struct
  have := run_loadVar_row (P := Tryz.prog) W l t 62 (wcells k m x) fz _ hl hu rfl (by rw [write_size, wcells_size])
  unfold loadW
  simp only [Instr.loadAt, Instr.sureAddr, Sem.run_bind, Sem.run_pure, Result.andThen_ok, this]
theorem run_storeW (W : World) (b : Nat) (k m : Int) (x : Val) (c : Array Value) (t : TypeId) (hl : blk W b = some (.cells c t (0, 0))) (hc : c.size = 19) :
    (storeW (.pointer (some ⟨b, 0, none⟩)) (.agg (wcells k m x))).run Tryz.prog W = .ok .skip (W.setRow b (wcells k m x)) := by
  have := run_storeVar_row (P := Tryz.prog) W b t 62 c (wcells k m x) hl (by rw [write_size, wcells_size]) (by rw [hc, wcells_size]) (wcells_one k m x)
  unfold storeW
  simp only [Instr.storeAt, Instr.sureAddr, Sem.run_bind, Sem.run_pure, Result.andThen_ok, this]

/-! ### Lists of writes -/
abbrev Wr := (Int × Int) × Val
def wcs (y : Wr) : List Value := (wcells y.1.1 y.1.2 y.2).toList
theorem wcs_len (y : Wr) : (wcs y).length = 19 := by simp [wcs, wcells_size]
def wcL : List Wr → List Value
  | [] => []
  | y :: l => wcs y ++ wcL l
theorem wcL_app (a b : List Wr) : wcL (a ++ b) = wcL a ++ wcL b := by
  induction a with
  | nil => rfl
  | cons k a ih => simp [wcL, ih]
theorem wcL_len (a : List Wr) : (wcL a).length = a.length * 19 := by
  induction a with
  | nil => rfl
  | cons k a ih => simp [wcL, ih, wcs_len]; omega
theorem wcL_part : ∀ (l : List Wr) (i : Nat) (h : i < l.length), ((wcL l).drop (i * 19)).take 19 = wcs l[i]
  | y :: l, 0, h => by
    simp [wcL, wcs_len]
  | y :: l, i + 1, h => by
    have := wcL_part l i (by simpa using h)
    simp only [wcL, List.getElem_cons_succ]
    rw [List.drop_append, wcs_len, List.drop_of_length_le (by rw [wcs_len]; omega), List.nil_append, show (i + 1) * 19 - 19 = i * 19 by omega]
    exact this
/-- A list of writes that is the call's own, in blocks from B on. -/
def WL (B : Nat) (W : World) (v : Value) (l : List Wr) : Prop := W.ownsRow B 62 19 v l.length (wcL l)
theorem WL.nil (B : Nat) (W : World) : WL B W (.slice none 0 0) [] := World.ownsRow_nil _ _ _ _
theorem WL.below {B : Nat} {W W' : World} {v : Value} {l : List Wr} (h : WL B W v l) (hb : Below W.heap.size W W') : WL B W' v l := by
  refine ⟨h.1, ?_⟩
  rcases h.2 with q | ⟨g, cap, cur, h1, h2, h3, h4⟩
  · exact Or.inl q
  · exact Or.inr ⟨g, cap, cur, h1, h2, (hb.block g (lt_of_heap h3)).trans h3, h4⟩
theorem WL.mono {B C : Nat} {W : World} {v : Value} {l : List Wr} (h : WL B W v l) (hc : C ≤ B) : WL C W v l := by
  refine ⟨h.1, ?_⟩
  rcases h.2 with q | ⟨g, cap, cur, h1, h2, h3⟩
  · exact Or.inl q
  · exact Or.inr ⟨g, cap, cur, h1, by omega, h3⟩
/-- The cells of each write of the list, in memory. -/
theorem WL.at {B : Nat} {W : World} {v : Value} {l : List Wr} (h : WL B W v l) : (l = [] ∧ v = .slice none 0 0) ∨ ∃ g c cur, v = .slice (some ⟨g, 0, none⟩) l.length c ∧ l.length ≤ c ∧ B ≤ g ∧ blk W g = some (.cells cur 62 (0, 0)) ∧ ∀ i (hi : i < l.length), cur.extract (i * 19) (i * 19 + 19) = wcells l[i].1.1 l[i].1.2 l[i].2 := by
  rcases h.2 with ⟨h1, h2⟩ | ⟨g, cap, cur, h1, h2, h3, h4, h5, h6, h7⟩
  · exact Or.inl ⟨List.length_eq_zero_iff.1 h2, h1⟩
  · refine Or.inr ⟨g, cap, cur, h1, h4, h2, h3, fun i hi => ?_⟩
    apply Array.toList_inj.1
    rw [Array.toList_extract]
    have := wcL_part l i hi
    rw [← h7] at this
    show _ = wcs l[i]
    rw [← this, List.extract_eq_take_drop, List.drop_take, List.take_take]
    congr 1
    omega
/-- A list of writes in memory, whosever it is. -/
def WR (W : World) (a : Option Addr) (l : List Wr) : Prop := ∀ i (hi : i < l.length), ∃ g cur, a = some ⟨g, 0, none⟩ ∧ blk W g = some (.cells cur 62 (0, 0)) ∧ cur.extract (i * 19) (i * 19 + 19) = wcells l[i].1.1 l[i].1.2 l[i].2
theorem WR.below {W W' : World} {a : Option Addr} {l : List Wr} (h : WR W a l) (hb : Below W.heap.size W W') : WR W' a l := fun i hi => by
  obtain ⟨g, cur, e, h1, h2⟩ := h i hi
  exact ⟨g, cur, e, (hb.block g (lt_of_heap h1)).trans h1, h2⟩
theorem WL.form {B : Nat} {W : World} {v : Value} {l : List Wr} (h : WL B W v l) : ∃ a c, v = .slice a l.length c ∧ l.length ≤ c ∧ WR W a l := by
  rcases h.at with ⟨rfl, rfl⟩ | ⟨g, c, cur, rfl, h1, _, h2, h3⟩
  · exact ⟨none, 0, rfl, Nat.le_refl _, fun i hi => absurd hi (by simp)⟩
  · exact ⟨_, c, rfl, h1, fun i hi => ⟨g, cur, rfl, h2, h3 i hi⟩⟩
theorem run_loadW_mid (W : World) (g o : Nat) (cur : Array Value) (k m : Int) (x : Val) (t : TypeId) (fz : Nat × Nat) (hl : blk W g = some (.cells cur t fz)) (hx : cur.extract o (o + 19) = wcells k m x) :
    (loadW (.pointer (some ⟨g, o, none⟩))).run Tryz.prog W = .ok (.value (.agg (wcells k m x))) W := by
  obtain ⟨fs, hu⟩ := write_struct
  have hr := World.rangeAt_of_block (w := W) hl o 19
  rw [hx] at hr
  have := run_loadVar_mid (P := Tryz.prog) W g o 62 (wcells k m x).toList _ hr hu rfl (by rw [write_size]; simp [wcells])
  unfold loadW
  simp only [Instr.loadAt, Instr.sureAddr, Sem.run_bind, Sem.run_pure, Result.andThen_ok, this]
theorem WL.ne {B : Nat} {W : World} {v : Value} {l : List Wr} (h : WL B W v l) {K : Nat} {c : Array Value} {t : TypeId} {fz : Nat × Nat} (hK : blk W K = some (.cells c t fz)) (ht : t ≠ 62) : v.ownBlock ≠ some K := by
  rcases h.2 with ⟨rfl, _⟩ | ⟨g, cap, cur, rfl, _, h3, _⟩
  · simp [Value.ownBlock]
  · intro e
    obtain rfl : g = K := by simpa [Value.ownBlock] using e
    unfold blk at hK
    rw [h3] at hK
    cases hK; exact ht rfl
theorem WL.low {B : Nat} {W : World} {v : Value} {l : List Wr} (h : WL B W v l) {K : Nat} (hK : K < B) : v.ownBlock ≠ some K := by
  rcases h.2 with ⟨rfl, _⟩ | ⟨g, cap, cur, rfl, h2, _⟩
  · simp [Value.ownBlock]
  · intro e
    obtain rfl : g = K := by simpa [Value.ownBlock] using e
    omega
theorem blk_grown {W W' : World} {row : Option Nat} (hg : W.grownBy W' row) {K : Nat} {o : Obj} (hb : blk W K = some o) (hne : row ≠ some K) : blk W' K = some o := (hg.block K (lt_of_heap hb) (fun e => hne e.symm)).trans hb
theorem info_write : (Tryz.prog.info? 62).map (fun i => (i.zero, i.size, i.bytes)) = some (some (.agg (wcells 0 0 Val.zero)), 19, 160) := by kernel_rfl
theorem wl_push {B : Nat} {W : World} {v : Value} {l : List Wr} (h : WL B W v l) (hB : B ≤ W.heap.size) (hl : l.length ≤ 10000) (G : Nat) (k m : Int) (x : Val) (hG : blk W G = some (.cells (wcells k m x) 62 (0, 0))) (ty : TypeId) :
    ∃ v' W', (Builtin.append_ #[22, 22] ty #[v, .slice (some ⟨G, 0, none⟩) 1 1]).run Tryz.prog W = .ok v' W' ∧ WL B W' v' (l ++ [((k, m), x)]) ∧ Below B W W' ∧ W.grownBy W' v.ownBlock := by
  obtain ⟨i1, hi, hz0, hz1, hz2⟩ := info_parts info_write
  obtain ⟨v', W', h1, h2, h3, h5⟩ := run_append_own (P := Tryz.prog) (w := W) B 22 ty 62 i1 (.agg (wcells 0 0 Val.zero)) 19 160 Tryz.underlying22 hi hz0 hz1 hz2 rfl (by decide) v l.length (wcL l) h ⟨G, 0, none⟩ 1 1 (wcs ((k, m), x)) (wcs_len _)
    (fun j u hj => by
      have e : (⟨G, 0, none⟩ : Addr).add j = ⟨G, j, none⟩ := by unfold Addr.add; split <;> simp_all
      rw [e, cell_of_row _ _ j _ _ _ hG]
      unfold wcs at hj
      simpa using hj) (fun u hu => by
      have := wcells_one k m x
      rw [Array.all_eq_true'] at this
      exact this u (by unfold wcs at hu; simpa using hu)) (by unfold maxLen; omega) (by omega) hB
  refine ⟨v', W', h1, ?_, (Below.refl B W).grown h3 hB (fun j hj => (World.ownsRow.lt h j hj).1), h3⟩
  unfold WL
  rw [wcL_app, List.length_append]
  simpa [wcL] using h2
end Go.Proofs.YtfcgkjbifnhjjaaGreatDoor.St
