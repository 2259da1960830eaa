/- What cloisterlaw8.StorePlays keeps: a view of the program's store beside a view of the document's. No condition but those written in each statement. -/
import Derived.Test.YtncgppdmfnapiaaAskL
import Derived.Test.YtncgppdmfnapiaaTwB
import Derived.Test.YtncgppdmfnapiaaRefZ
namespace Go.Proofs.Ytncgppdmfnapiaa.St
open Go.RowKit
set_option linter.unusedVariables false
/-- The blocks of the one and of the other lie apart; what is written lies behind the inputs. -/
structure Off (w : World) (L : Lay) (R : RLay) : Prop where
  lo : ∀ i, i = L.l ∨ i = L.r ∨ i = L.m → w.heap.size ≤ i ∧ i ≠ R.q ∧ i ≠ R.d ∧ i ≠ R.s ∧ i ≠ R.r ∧ i ≠ R.m
  ro : ∀ i, i = R.s ∨ i = R.r ∨ i = R.m → w.heap.size ≤ i ∧ i ≠ L.v ∧ i ≠ L.s ∧ i ≠ L.l ∧ i ≠ L.r ∧ i ≠ L.m
  vl : L.v ≠ L.l
  sl : L.s ≠ L.l
  rl : L.r ≠ L.l
  ml : L.m ≠ L.l
/-- The program's view is in state a, the document's in state b. -/
structure Pl (w : World) (L : Lay) (R : RLay) (a b : VSt) (W : World) : Prop where
  v : ViewAt W L a
  r : RViewAt W R b
  b : Below w.heap.size w W
section
variable {w : World} {L : Lay} {R : RLay} {a b a' b' : VSt} {W W' : World}
theorem Pl.below (h : Pl w L R a b W) (hb : Below W.heap.size W W') : Pl w L R a b W' :=
  ⟨h.v.below hb, h.r.below hb, h.b.trans (hb.mono h.b.size)⟩
theorem Pl.left {S : Nat → Prop} (F : Off w L R) (h : Pl w L R a b W) (hV : ViewAt W' L a') (T : Turn S W W') (hS : ∀ i, S i → i = L.l ∨ i = L.r ∨ i = L.m) : Pl w L R a' b W' :=
  ⟨hV, h.r.keep T (fun i q => (F.lo i (hS i q)).2), h.b.trans (T.below (B := w.heap.size) h.b.size (fun i q => (F.lo i (hS i q)).1))⟩
theorem Pl.right {S : Nat → Prop} (F : Off w L R) (h : Pl w L R a b W) (hV : RViewAt W' R b') (T : Turn S W W') (hS : ∀ i, S i → i = R.s ∨ i = R.r ∨ i = R.m) : Pl w L R a b' W' :=
  ⟨h.v.keep T (fun i q => (F.ro i (hS i q)).2), hV, h.b.trans (T.below (B := w.heap.size) h.b.size (fun i q => (F.ro i (hS i q)).1))⟩
/-- The program's store is written beneath its view. -/
theorem Pl.store (F : Off w L R) (h : Pl w L R a b W) (base : Nat → Val) (hS : StoreAt W' L.s L.l base) (T : Turn (· = L.l) W W') : Pl w L R { a with base := base } b W' := by
  obtain ⟨er, cr, r1, r2⟩ := h.v.cr
  obtain ⟨em, cm, m1, m2⟩ := h.v.cm
  exact h.left F ⟨blk_of_turn T h.v.cv (fun q => F.vl q), hS, ⟨er, cr, blk_of_turn T r1 (fun q => F.rl q), r2⟩, ⟨em, cm, blk_of_turn T m1 (fun q => F.ml q), m2⟩, h.v.ne⟩ T (fun i q => Or.inl q)
/-- The document's store is written beneath its view. -/
theorem Pl.rstore (F : Off w L R) (h : Pl w L R a b W) (base : Nat → Val) (hS : RStoreAt W' R.d R.s base) (T : Turn (· = R.s) W W') : Pl w L R a { b with base := base } W' := by
  obtain ⟨er, cr, r1, r2⟩ := h.r.cr
  obtain ⟨em, cm, m1, m2⟩ := h.r.cm
  obtain ⟨es, cs, f, s1, _⟩ := h.r.sa.cm
  have n1 : R.q ≠ R.s := cells_ne_map h.r.cq s1
  exact h.right F ⟨blk_of_turn T h.r.cq (fun q => n1 q), hS, ⟨er, cr, blk_of_turn T r1 (fun q => h.r.ne.2.1 q.symm), r2⟩, ⟨em, cm, blk_of_turn T m1 (fun q => h.r.ne.2.2 q.symm), m2⟩, h.r.ne⟩ T (fun i q => Or.inl q)
end
theorem RViewAt.lts {W : World} {R : RLay} {st : VSt} (h : RViewAt W R st) : R.q < W.heap.size ∧ R.d < W.heap.size ∧ R.s < W.heap.size ∧ R.r < W.heap.size ∧ R.m < W.heap.size := by
  obtain ⟨_, _, hr, _⟩ := h.cr
  obtain ⟨_, _, hm, _⟩ := h.cm
  obtain ⟨_, _, _, hs, _⟩ := h.sa.cm
  exact ⟨lt_of_heap h.cq, lt_of_heap h.sa.cd, lt_of_heap hs, lt_of_heap hr, lt_of_heap hm⟩
/-- New views of the same stores. -/
theorem Off.new {w W W2 : World} {L L2 : Lay} {R R2 : RLay} (F : Off w L R) (hL : L.l < W.heap.size) (hs : L.s < W.heap.size) (hd : R.d < W.heap.size) (hr : R.s < W.heap.size) (hw : w.heap.size ≤ W.heap.size)
    (e1 : L2.s = L.s) (e2 : L2.l = L.l) (e3 : R2.d = R.d) (e4 : R2.s = R.s) (gv : W.heap.size ≤ L2.v) (gr : W.heap.size ≤ L2.r) (gm : W.heap.size ≤ L2.m) (lv : L2.v < W2.heap.size) (lr : L2.r < W2.heap.size) (lm : L2.m < W2.heap.size)
    (hq : W2.heap.size ≤ R2.q) (hr2 : W2.heap.size ≤ R2.r) (hm2 : W2.heap.size ≤ R2.m) : Off w L2 R2 := by
  have h1 := F.lo L.l (Or.inl rfl)
  have h2 := F.ro R.s (Or.inl rfl)
  have h3 := F.sl
  refine ⟨fun i hi => ?_, fun i hi => ?_, ?_, ?_, ?_, ?_⟩ <;> omega
/-- Writes put into a store, one behind the other. -/
def putAll (base : Nat → Val) (l : List Wr) : Nat → Val := l.foldl (fun b y => storePut b y.1.1 y.1.2 y.2) base
theorem putAll_step (base : Nat → Val) (l : List Wr) (j : Nat) (h : j < l.length) : putAll base (l.take (j + 1)) = storePut (putAll base (l.take j)) l[j].1.1 l[j].1.2 l[j].2 := by
  unfold putAll
  rw [List.take_succ_eq_append_getElem h, List.foldl_append]; rfl
/-- A key, a value within an ask. -/
abbrev QA (G : Nat) (q : AskV) (W : World) : Prop := W.cell? ⟨G, 0, none⟩ = some (.int .i64 q.kind) ∧ W.cell? ⟨G, 1, none⟩ = some (.int .i64 q.k) ∧ W.cell? ⟨G, 2, none⟩ = some (.int .i64 q.n) ∧ blk W G = some (.cells q.cells 58 (0, 0))
theorem qa_of {W : World} {G : Nat} {q : AskV} (h : blk W G = some (.cells q.cells 58 (0, 0))) : QA G q W := ⟨cell_of_row W G 0 _ _ _ h, cell_of_row W G 1 _ _ _ h, cell_of_row W G 2 _ _ _ h, h⟩
theorem qa_below {W W' : World} {G : Nat} {q : AskV} (h : QA G q W) (hb : Below W.heap.size W W') : QA G q W' := qa_of ((hb.block G (lt_of_heap h.2.2.2)).trans h.2.2.2)
theorem qa_turn {S : Nat → Prop} {W W' : World} {G : Nat} {q : AskV} (h : QA G q W) (hT : Turn S W W') (hS : ¬ S G) : QA G q W' := qa_of (blk_of_turn hT h.2.2.2 hS)
theorem qa_load {W : World} {G : Nat} {q : AskV} (h : QA G q W) : (loadV (.pointer (some ⟨G, 3, none⟩))).run Try.prog W = .ok (.value (.agg q.v.cells)) W := run_loadV_mid W G 3 _ _ _ _ h.2.2.2 (qcells_ext q)
theorem rd_len (st : VSt) : (rdP st).length ≤ 55 := rise_len _ (plF_rises _) (plF_lt _)
theorem ft_len (st : VSt) : (ftP st).length ≤ 55 := rise_len _ (plF_rises _) (plF_lt _)
theorem wrL_le (st : VSt) : (wrL st).length ≤ 55 := by rw [wrL_len]; exact rise_len _ (plF_rises _) (plF_lt _)
theorem vok_base {st : VSt} (h : VOk st) (base : Nat → Val) : VOk { st with base := base } := ⟨h.rd, h.wr⟩
theorem WL.turn {B : Nat} {S : Nat → Prop} {W W' : World} {v : Value} {l : List Wr} (h : WL B W v l) (hT : Turn S W W') (hS : ∀ i, B ≤ i → ¬ S i) : WL B W' v l := by
  refine ⟨h.1, ?_⟩
  rcases h.2 with q | ⟨g, cap, cur, h1, h2, h3, h4⟩
  · exact Or.inl q
  · exact Or.inr ⟨g, cap, cur, h1, h2, blk_of_turn hT h3 (hS g h2), h4⟩
theorem wrL_key (st : VSt) (j : Nat) (h : j < (wrL st).length) : (wrL st)[j].1.1 ≤ 9223372036854775807 := by
  have hj : j < (wrP st).length := by rw [← wrL_len]; exact h
  have hm := (plF_lt _) _ (List.getElem_mem (show j < (wrP st).length from hj))
  obtain ⟨p, hp⟩ := Int.eq_ofNat_of_zero_le hm.1
  have hk := place_keyP p (by omega)
  have := (place_range _ _ (show 0 ≤ placeI (keyP (p : Int)).1 (keyP (p : Int)).2 by rw [hk]; omega)).2.2.2.1
  have e : (wrL st)[j].1 = keyP (wrP st)[j] := by
    exact congrArg Prod.fst (List.getElem_map (fun p => (keyP p, (st.wr (keyP p).1 (keyP p).2).getD Val.zero)))
  rw [e, hp]
  omega
theorem WL.get {B : Nat} {W : World} {a : Option Addr} {n c : Nat} {l : List Wr} (h : WL B W (.slice a n c) l) (j : Nat) (hj : j < l.length) : ∃ g cur, a = some ⟨g, 0, none⟩ ∧ B ≤ g ∧ blk W g = some (.cells cur 53 (0, 0)) ∧ cur.extract (j * 19) (j * 19 + 19) = wcells l[j].1.1 l[j].1.2 l[j].2 := by
  rcases h.at with ⟨rfl, _⟩ | ⟨g, c', cur, e, _, hB, h2, h3⟩
  · simp at hj
  · injection e with e1
    exact ⟨g, cur, e1, hB, h2, h3 j hj⟩
end Go.Proofs.Ytncgppdmfnapiaa.St
