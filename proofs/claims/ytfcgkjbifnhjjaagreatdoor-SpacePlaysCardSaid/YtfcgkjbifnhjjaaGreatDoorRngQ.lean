/- Ranging over a map, said of its entries: what came, what is still to come. No condition but those written in each statement. -/
import Derived.Test.YtfcgkjbifnhjjaaGreatDoorQ51
import Derived.Maps.Range
import Derived.Maps.RangeWalk
import Derived.Sort.MapsRangeIn
namespace Go.Proofs.YtfcgkjbifnhjjaaGreatDoor.St
open Go.RowKit
set_option linter.unusedVariables false

theorem Born.nodup {es : Array MapEntry} {clk : Nat} (h : Born es clk) : (es.toList.map (·.born)).Nodup := by
  rw [List.nodup_iff_pairwise_ne, List.pairwise_map, List.pairwise_iff_getElem]
  intro i j hi hj hij e
  have := h.once i j (by simpa using hi) (by simpa using hj) (by simpa using e)
  omega
theorem Born.old {es : Array MapEntry} {clk : Nat} (h : Born es clk) : ∀ x ∈ es.toList, x.born < clk := fun x hx => by
  obtain ⟨i, hi, rfl⟩ := List.getElem_of_mem hx
  exact h.young i (by simpa using hi)
theorem Born.eq {es : Array MapEntry} {clk : Nat} (h : Born es clk) {x y : MapEntry} (hx : x ∈ es.toList) (hy : y ∈ es.toList) (e : x.born = y.born) : x = y := by
  obtain ⟨i, hi, rfl⟩ := List.getElem_of_mem hx
  obtain ⟨j, hj, rfl⟩ := List.getElem_of_mem hy
  have := h.once i j (by simpa using hi) (by simpa using hj) (by simpa using e)
  subst this; rfl
/-- The map of block b is being ranged over by the iterator of block r; the entries xs have come. -/
structure Rng (W : World) (b r : Nat) (es : Array MapEntry) (clk : Nat) (xs : List MapEntry) : Prop where
  hb : W.heap[b]? = some (.map es clk)
  hr : ∃ c0 seen, W.heap[r]? = some (.mapIter (some b) clk seen c0) ∧ clk ≤ c0 ∧ ∀ e ∈ es.toList, seen.contains e.born = true ↔ e ∈ xs
  sub : ∀ e ∈ xs, e ∈ es.toList
  nodup : xs.Nodup
theorem Rng.ne {W : World} {b r : Nat} {es : Array MapEntry} {clk : Nat} {xs : List MapEntry} (h : Rng W b r es clk xs) : r ≠ b := by
  obtain ⟨c0, seen, hr, _⟩ := h.hr
  intro e
  rw [e, h.hb] at hr
  cases hr
theorem Rng.keep {W W' : World} {b r : Nat} {es : Array MapEntry} {clk : Nat} {xs : List MapEntry} (h : Rng W b r es clk xs) (e1 : W'.heap[b]? = W.heap[b]?) (e2 : W'.heap[r]? = W.heap[r]?) : Rng W' b r es clk xs := by
  obtain ⟨c0, seen, hr, q⟩ := h.hr
  exact ⟨e1.trans h.hb, ⟨c0, seen, e2.trans hr, q⟩, h.sub, h.nodup⟩
theorem Rng.lt {W : World} {b r : Nat} {es : Array MapEntry} {clk : Nat} {xs : List MapEntry} (h : Rng W b r es clk xs) : b < W.heap.size ∧ r < W.heap.size := by
  obtain ⟨c0, seen, hr, _⟩ := h.hr
  exact ⟨(Array.getElem?_eq_some_iff.1 h.hb).1, (Array.getElem?_eq_some_iff.1 hr).1⟩
theorem rng_start {W : World} {b : Nat} {es : Array MapEntry} {clk : Nat} (hb : W.heap[b]? = some (.map es clk)) : Rng (W.alloc (.mapIter (some b) clk #[] clk)) b W.heap.size es clk [] := by
  have hlt := (Array.getElem?_eq_some_iff.1 hb).1
  exact ⟨(Below.heap_alloc W _ b hlt).trans hb, ⟨clk, #[], heap_alloc_new _ _, Nat.le_refl _, fun e _ => by simp⟩, fun e h => absurd h (by simp), List.nodup_nil⟩
theorem rng_next {P : Program} {W : World} {b r : Nat} {es : Array MapEntry} {clk : Nat} {xs : List MapEntry} (h : Rng W b r es clk xs) (hB : Born es clk) (ty : TypeId) :
    ((∀ e ∈ es.toList, e ∈ xs) ∧ (Instr.next (.pointer (some ⟨r, 0, none⟩)) false ty).run P W = .ok (.tuple #[.bool false]) W) ∨
    ∃ e W', e ∈ es.toList ∧ e ∉ xs ∧ (Instr.next (.pointer (some ⟨r, 0, none⟩)) false ty).run P W = .ok (.tuple #[.bool true, e.key, e.val]) W' ∧ Rng W' b r es clk (xs ++ [e]) ∧
      (Instr.entry (.pointer (some ⟨r, 0, none⟩))).run P W' = .ok (.tuple #[e.key, e.val]) W' ∧ Turn (· = r) W W' ∧ W'.heap.size = W.heap.size ∧ W.grownBy W' (some r) ∧ W'.rangeLeft b r < W.rangeLeft b r := by
  have hne := h.ne
  obtain ⟨c0, seen, hr, hc, hs⟩ := h.hr
  have hb := h.hb
  rcases run_next_at (P := P) W ty r b clk c0 seen es clk hr hb hB.old hc with ⟨h0, hrun⟩ | ⟨e, he, w1, hal, hrun⟩
  · exact Or.inl ⟨fun e he => (hs e he).1 (all_seen es seen h0 e he), hrun⟩
  · obtain ⟨hem, hes⟩ := mem_left he
    have hnx : e ∉ xs := fun q => by rw [(hs e hem).2 q] at hes; cases hes
    have hr1 : w1.heap[r]? = some (.mapIter (some b) clk seen c0) := by rcases hal with rfl | rfl <;> exact hr
    have hb1 : w1.heap[b]? = some (.map es clk) := by rcases hal with rfl | rfl <;> exact hb
    have hset := MapKept.heap_set (o' := .mapIter (some b) clk (seen.push e.born) clk) hr1
    have hb' : (ChangeMaps.setBlock w1 r (.mapIter (some b) clk (seen.push e.born) clk)).heap[b]? = some (.map es clk) := (hset.2 b (fun e1 => hne e1.symm)).trans hb1
    have hz : (ChangeMaps.setBlock w1 r (.mapIter (some b) clk (seen.push e.born) clk)).heap.size = W.heap.size := by rcases hal with rfl | rfl <;> simp [ChangeMaps.setBlock]
    refine Or.inr ⟨e, _, hem, hnx, hrun, ⟨hb', ⟨clk, _, hset.1, Nat.le_refl _, fun x hx => ?_⟩, fun x hx => ?_, ?_⟩, run_entry_at _ r b clk seen es clk e hset.1 hb' hem hB.nodup, ?_, hz, ?_, ?_⟩
    · rw [contains_push, Bool.or_eq_true, hs x hx, List.mem_append, List.mem_singleton, beq_iff_eq]
      exact ⟨fun q => q.imp id fun q => hB.eq hx hem q, fun q => q.imp id fun q => by rw [q]⟩
    · rcases List.mem_append.1 hx with q | q
      · exact h.sub x q
      · rw [List.mem_singleton] at q; rw [q]; exact hem
    · rw [List.nodup_append]
      exact ⟨h.nodup, by simp, fun a ha c hc q => hnx (by rw [List.mem_singleton] at hc; rw [← hc, ← q]; exact ha)⟩
    · rcases hal with rfl | rfl <;> exact ⟨rfl, rfl, rfl, by simp [ChangeMaps.setBlock], fun i hi hn => hset.2 i hn⟩
    · rcases hal with rfl | rfl <;> exact ⟨rfl, rfl, rfl, by simp [ChangeMaps.setBlock], fun i _ hi => hset.2 i (fun e1 => hi (by rw [e1]))⟩
    · unfold World.rangeLeft
      have hs1 : (ChangeMaps.setBlock w1 r (.mapIter (some b) clk (seen.push e.born) clk)).heap[r]? = _ := hset.1
      rw [hb', hs1, hb, hr]
      exact left_shrinks es seen e he
/-- 'range m', as an operation of a plain walk. -/
theorem wpList_range_e {P : Program} {w : World} {ops : Array Oper} {rest : List Oper} {o : Oper} {a : Act} {Q : Exit → Act → World → Prop} (hg : o.guard = none) (m : Operand) (t : TypeId) (hop : o.op = Op.range t m) (k e : TypeId) (ht : P.underlying t = some (.map k e)) {b : Nat} {es : Array MapEntry} {clk : Nat}
    (hm : a.eval m = .map (some b)) (hb : w.heap[b]? = some (.map es clk)) (hK : wpList P ops Q rest (a.put o.dst (.pointer (some ⟨w.heap.size, 0, none⟩))) (w.alloc (.mapIter (some b) clk #[] clk))) :
    wpList P ops Q (o :: rest) a w := by
  refine wpList_plain hg fun K' hK' => ?_
  have hrun := run_range_map w t k e b es clk ht hb
  unfold Oper.wp
  simp [execOp, hop, hm, hrun, Result.andThen]
  exact hK' _ _ hK
/-- The step, as an operation of a plain walk. -/
theorem wpList_next_e {P : Program} {w : World} {ops : Array Oper} {rest : List Oper} {o : Oper} {a : Act} {Q : Exit → Act → World → Prop} (hg : o.guard = none) (it : Operand) (hop : o.op = Op.next it false) {b r : Nat} {es : Array MapEntry} {clk : Nat} {xs : List MapEntry}
    (hit : a.eval it = .pointer (some ⟨r, 0, none⟩)) (h : Rng w b r es clk xs) (hB : Born es clk)
    (hDone : (∀ e ∈ es.toList, e ∈ xs) → wpList P ops Q rest (a.put o.dst (.tuple #[.bool false])) w)
    (hMore : ∀ (e : MapEntry) (w' : World), e ∈ es.toList → e ∉ xs → Rng w' b r es clk (xs ++ [e]) → (Instr.entry (.pointer (some ⟨r, 0, none⟩))).run P w' = .ok (.tuple #[e.key, e.val]) w' → Turn (· = r) w w' → w'.heap.size = w.heap.size → w.grownBy w' (some r) → w'.rangeLeft b r < w.rangeLeft b r →
      wpList P ops Q rest (a.put o.dst (.tuple #[.bool true, e.key, e.val])) w') :
    wpList P ops Q (o :: rest) a w := by
  refine wpList_plain hg fun K' hK' => ?_
  unfold Oper.wp
  rcases rng_next (P := P) h hB o.type with ⟨h0, hrun⟩ | ⟨e, w', h1, h2, hrun, h3, h4, h5, h6, h7, h8⟩
  · simp [execOp, hop, hit, hrun, Result.andThen]
    exact hK' _ _ (hDone h0)
  · simp [execOp, hop, hit, hrun, Result.andThen]
    exact hK' _ _ (hMore e w' h1 h2 h3 h4 h5 h6 h7 h8)
/-- 'range m', within a fence. -/
theorem wpListIn_range_e {F : Fence} {n : Nat} {P : Program} {w : World} {ops : Array Oper} {rest : List Oper} {o : Oper} {a : Act} {Q : Exit → Act → World → Prop} (hg : o.guard = none) (m : Operand) (t : TypeId) (hop : o.op = Op.range t m) (k e : TypeId) (ht : P.underlying t = some (.map k e)) {b : Nat} {es : Array MapEntry} {clk : Nat}
    (hm : a.eval m = .map (some b)) (hb : w.heap[b]? = some (.map es clk)) (hK : wpListIn F n P ops Q rest (a.put o.dst (.pointer (some ⟨w.heap.size, 0, none⟩))) (w.alloc (.mapIter (some b) clk #[] clk))) :
    wpListIn F n P ops Q (o :: rest) a w := by
  refine wpListIn_plain hg fun K' hK' => ?_
  have hrun := run_range_map w t k e b es clk ht hb
  unfold Oper.wpIn
  refine ⟨by simp [Oper.about, hop], ?_⟩
  rw [Oper.semAt_plain F _ _ (by rw [hop]; intro c hc'; cases hc')]
  simp [execOp, hop, hm, hrun, Result.andThen]
  exact hK' _ _ hK
/-- The step, within a fence. -/
theorem wpListIn_next_e {F : Fence} {n : Nat} {P : Program} {w : World} {ops : Array Oper} {rest : List Oper} {o : Oper} {a : Act} {Q : Exit → Act → World → Prop} (hg : o.guard = none) (it : Operand) (hop : o.op = Op.next it false) {b r : Nat} {es : Array MapEntry} {clk : Nat} {xs : List MapEntry}
    (hit : a.eval it = .pointer (some ⟨r, 0, none⟩)) (h : Rng w b r es clk xs) (hB : Born es clk)
    (hDone : (∀ e ∈ es.toList, e ∈ xs) → wpListIn F n P ops Q rest (a.put o.dst (.tuple #[.bool false])) w)
    (hMore : ∀ (e : MapEntry) (w' : World), e ∈ es.toList → e ∉ xs → Rng w' b r es clk (xs ++ [e]) → (Instr.entry (.pointer (some ⟨r, 0, none⟩))).run P w' = .ok (.tuple #[e.key, e.val]) w' → Turn (· = r) w w' → w'.heap.size = w.heap.size → w.grownBy w' (some r) → w'.rangeLeft b r < w.rangeLeft b r →
      wpListIn F n P ops Q rest (a.put o.dst (.tuple #[.bool true, e.key, e.val])) w') :
    wpListIn F n P ops Q (o :: rest) a w := by
  refine wpListIn_plain hg fun K' hK' => ?_
  unfold Oper.wpIn
  refine ⟨by simp [Oper.about, hop], ?_⟩
  rw [Oper.semAt_plain F _ _ (by rw [hop]; intro c hc'; cases hc')]
  rcases rng_next (P := P) h hB o.type with ⟨h0, hrun⟩ | ⟨e, w', h1, h2, hrun, h3, h4, h5, h6, h7, h8⟩
  · simp [execOp, hop, hit, hrun, Result.andThen]
    exact hK' _ _ (hDone h0)
  · simp [execOp, hop, hit, hrun, Result.andThen]
    exact hK' _ _ (hMore e w' h1 h2 h3 h4 h5 h6 h7 h8)
end Go.Proofs.YtfcgkjbifnhjjaaGreatDoor.St
