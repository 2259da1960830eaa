/- The contract of name.Split: a path's names. For a text of at most 2^20 bytes, where bytealg's variable holds a number. -/
import Derived.Test.YtcefigpdodlonaaNmA
import Derived.Laws.AppendOwn
import Derived.OwnWalk
import Derived.LoopTactic
namespace Go.Proofs.Ytcefigpdodlonaa.St
open Go.RowKit
set_option linter.unusedVariables false

theorem info_str : (Try.prog.info? 9).map (fun i => (i.zero, i.size, i.bytes)) = some (some (.string ByteArray.empty), 1, 16) := by kernel_rfl
/-- The library's variable holds a number. -/
def Mx (w : World) : Prop := ∃ m, w.cell? ⟨0, 0, none⟩ = some (.int .i64 m)
theorem Mx.below {B : Nat} {w w' : World} (h : Mx w) (hB : w.heap.size ≤ B) (hb : Below B w w') : Mx w' := by
  obtain ⟨m, hm⟩ := h
  have := World.block_lt_of_cell? _ _ hm
  exact ⟨m, (hb.cell (by simp at this ⊢; omega)).trans hm⟩

theorem lt_of_heap {W : World} {b : Nat} {o : Obj} (h : W.heap[b]? = some o) : b < W.heap.size := (Array.getElem?_eq_some_iff.1 h).1
/-- A list of texts in blocks from B on. -/
def TL (B : Nat) (W : World) (v : Value) (ps : List ByteArray) : Prop := W.ownsRow B 9 1 v ps.length (ps.map Value.string)
theorem TL.nil (B : Nat) (W : World) : TL B W (.slice none 0 0) [] := World.ownsRow_nil _ _ _ _
theorem TL.keep {B : Nat} {W W' : World} {v : Value} {ps : List ByteArray} (h : TL B W v ps) (hb : ∀ g, B ≤ g → g < W.heap.size → W'.heap[g]? = W.heap[g]?) : TL B W' v ps := by
  refine ⟨h.1, ?_⟩
  rcases h.2 with q | ⟨g, cap, cur, h1, h2, h3, h4⟩
  · exact Or.inl q
  · exact Or.inr ⟨g, cap, cur, h1, h2, (hb g h2 (lt_of_heap h3)).trans h3, h4⟩
theorem TL.below {B : Nat} {W W' : World} {v : Value} {ps : List ByteArray} (h : TL B W v ps) (hb : Below W.heap.size W W') : TL B W' v ps := h.keep fun g _ hg => hb.block g hg
theorem TL.mono {B C : Nat} {W : World} {v : Value} {ps : List ByteArray} (h : TL B W v ps) (hc : C ≤ B) : TL C W v ps := by
  refine ⟨h.1, ?_⟩
  rcases h.2 with q | ⟨g, cap, cur, h1, h2, h3, h4⟩
  · exact Or.inl q
  · exact Or.inr ⟨g, cap, cur, h1, by omega, h3, h4⟩
theorem TL.tr {B : Nat} {W : World} {v : Value} {ps : List ByteArray} (h : TL B W v ps) : ∃ a c, v = .slice a ps.length c ∧ TR W a ps ∧ ∀ x, a = some x → B ≤ x.block := by
  rcases h.2 with ⟨rfl, h0⟩ | ⟨g, cap, cur, e', h2, _⟩
  · exact ⟨none, 0, by rw [h0], fun i hi => by omega, fun x hx => by cases hx⟩
  · refine ⟨_, _, e', fun i hi => ⟨_, rfl, ?_⟩, fun x hx => by cases hx; exact h2⟩
    subst e'
    refine World.ownsRow.cells h rfl i _ ?_
    simp [List.getElem?_eq_getElem hi]
/-- An append to a list that is the call's own. -/
theorem tl_push {B : Nat} {wr w1 : World} {v v' : Value} {o : Obj} {ps : List ByteArray} {p : ByteArray} (hB : B ≤ wr.heap.size) (hown : TL B wr v ps)
    (hown' : w1.ownsRow B 9 1 v' (ps.length + 1) (ps.map Value.string ++ [.string p])) (hgrow : (wr.alloc o).grownBy w1 v.ownBlock) :
    TL B w1 v' (ps ++ [p]) ∧ Below B wr w1 :=
  ⟨by simpa [TL] using hown', ((Below.refl B wr).alloc hB o).grown hgrow (by simp; omega) (fun j hj => by have := (World.ownsRow.lt hown j hj).1; omega)⟩

theorem splOk_no {l : List UInt8} (h : l.length = 0 ∨ 60 < l.length) : splOk l = false := by
  unfold splOk
  rcases h with h | h
  · rw [List.eq_nil_of_length_eq_zero h]; rfl
  · rw [decide_eq_false (by omega : ¬ l.length ≤ 60)]; simp
theorem splOk_is {l : List UInt8} (h1 : 0 < l.length) (h2 : l.length ≤ 60) : splOk l = (namesL l).all rightL := by
  unfold splOk
  rw [decide_eq_true h2]
  cases l with
  | nil => simp at h1
  | cons a t => simp
theorem names_all (l : List UInt8) : (((namesL l).map bs).all fun p => rightL p.data.toList) = (namesL l).all rightL := by
  rw [List.all_map]
  congr 1
theorem nePcs_take (ps : List (List UInt8)) (j : Nat) (h : j < ps.length) : nePcs (ps.take (j + 1)) = nePcs (ps.take j) ++ (if ps[j] = [] then [] else [ps[j]]) := by
  rw [List.take_succ_eq_append_getElem h, nePcs_append, nePcs_cons]
  simp [nePcs]
theorem has_head (l : List UInt8) : Lib.hasPrefix l [47] = (l.head? == some 47) := by
  show ([47] : List UInt8).isPrefixOf l = _
  cases l with
  | nil => rfl
  | cons a t =>
    show ((47 == a) && ([] : List UInt8).isPrefixOf t) = (some a == some 47)
    by_cases h : a = 47
    · subst h; rfl
    · have h1 : (47 == a) = false := beq_eq_false_iff_ne.2 (fun e => h e.symm)
      have h2 : (some a == some (47 : UInt8)) = false := beq_eq_false_iff_ne.2 (fun e => h (Option.some.inj e))
      rw [h1, h2]; rfl
attribute [local irreducible] Int.lt Int.le
end Go.Proofs.Ytcefigpdodlonaa.St
