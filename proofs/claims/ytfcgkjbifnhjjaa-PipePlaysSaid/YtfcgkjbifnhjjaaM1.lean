/- A view of the program's store beside a view of the document's; equality of structures that are the same; writes put one behind the other. What a walk is told of a slice of writes (a key, a value). The contracts of cloisterkeep.New of no writes, and of Two.Look: a store and a view that hold nothing. The two stores with a view each, the program's and the document's, as one fact that each call keeps. The contracts of Two.Look, Same, Stores, Put over both stores with their views. The contract of cloisterkeep.New of any writes. No condition but those written in each statement. -/
import Derived.Test.YtfcgkjbifnhjjaaRefZ
import Derived.Test.YtfcgkjbifnhjjaaSameW
import Derived.Test.YtfcgkjbifnhjjaaKeySa
import Derived.Test.YtfcgkjbifnhjjaaKeyW1
import Derived.Test.YtfcgkjbifnhjjaaPutS
import Derived.Test.YtfcgkjbifnhjjaaLawKit
import Derived.Test.YtfcgkjbifnhjjaaWri
import Derived.OpenShut
import Derived.Test.YtfcgkjbifnhjjaaNew
import Derived.Test.YtfcgkjbifnhjjaaRefX
import Derived.Deep.RegionWith
import Derived.Deep.CutRange
import Derived.Deep.CutBlock
namespace Go.Proofs.Ytfcgkjbifnhjjaa.St
open Go.RowKit
set_option linter.unusedVariables false
theorem run_eql_op {xs : Array Value} {ρ : Operand → Value} {t : TypeId} {x y : Operand} {dst : Option Tmp} {ty : TypeId} {pos : String} {after : Array Edge} {guard : Option (Nat × Bool)} {w : World} (hx : ρ x = .agg xs) (hy : ρ y = .agg xs) (hm : Try.prog.eqGuardType Try.prog.depth t = false) (h : (Op.equalIn 10000 t (.agg xs) (.agg xs)).run Try.prog w = .ok true w) :
    (execOp ρ { dst, op := .binOp .eql t x y t, type := ty, pos, after, guard }).run Try.prog w = .ok (.value (.bool true)) w := by
  simp [execOp, hx, hy, run_eql_struct, h, run_eqGuard_agg w .eql t x y xs xs hm]
theorem turn_cells_two {S : Nat → Prop} {W W' : World} {K : Nat} {A C : Int} (h : W.cell? ⟨K, 0, none⟩ = some (.int .i64 A) ∧ W.cell? ⟨K, 1, none⟩ = some (.int .i64 C)) (hT : Turn S W W') (hK : ¬ S K) : W'.cell? ⟨K, 0, none⟩ = some (.int .i64 A) ∧ W'.cell? ⟨K, 1, none⟩ = some (.int .i64 C) := by
  have hb := hT.block K (cell_block_lt h.1) hK
  have e : ∀ i, W'.cell? ⟨K, i, none⟩ = W.cell? ⟨K, i, none⟩ := fun i => by simp only [World.cell?, hb]
  rw [e, e]; exact h
abbrev K2 (K : Nat) (A C : Int) (W : World) : Prop := W.cell? ⟨K, 0, none⟩ = some (.int .i64 A) ∧ W.cell? ⟨K, 1, none⟩ = some (.int .i64 C)
/-- The blocks of the one and of the other lie apart; what is written lies behind the inputs. -/
structure Off (w : World) (L : Lay) (R : RLay) : Prop where
  lo : ∀ i, i = L.l ∨ i = L.r ∨ i = L.m → w.heap.size ≤ i ∧ i ≠ R.q ∧ i ≠ R.d ∧ i ≠ R.s ∧ i ≠ R.r ∧ i ≠ R.m
  ro : ∀ i, i = R.s ∨ i = R.r ∨ i = R.m → w.heap.size ≤ i ∧ i ≠ L.v ∧ i ≠ L.s ∧ i ≠ L.l ∧ i ≠ L.r ∧ i ≠ L.m
  vl : L.v ≠ L.l
  sl : L.s ≠ L.l
  rl : L.r ≠ L.l
  ml : L.m ≠ L.l
/-- The program's view is in state a, the document's in state b. -/
structure Pl (w : World) (L : Lay) (R : RLay) (a b : VSt) (W : World) : Prop where
  v : ViewAt W L a
  r : RViewAt W R b
  b : Below w.heap.size w W
section
variable {w : World} {L : Lay} {R : RLay} {a b a' b' : VSt} {W W' : World}
theorem Pl.below (h : Pl w L R a b W) (hb : Below W.heap.size W W') : Pl w L R a b W' :=
  ⟨h.v.below hb, h.r.below hb, h.b.trans (hb.mono h.b.size)⟩
theorem Pl.left {S : Nat → Prop} (F : Off w L R) (h : Pl w L R a b W) (hV : ViewAt W' L a') (T : Turn S W W') (hS : ∀ i, S i → i = L.l ∨ i = L.r ∨ i = L.m) : Pl w L R a' b W' :=
  ⟨hV, h.r.keep T (fun i q => (F.lo i (hS i q)).2), h.b.trans (T.below (B := w.heap.size) h.b.size (fun i q => (F.lo i (hS i q)).1))⟩
theorem Pl.right {S : Nat → Prop} (F : Off w L R) (h : Pl w L R a b W) (hV : RViewAt W' R b') (T : Turn S W W') (hS : ∀ i, S i → i = R.s ∨ i = R.r ∨ i = R.m) : Pl w L R a b' W' :=
  ⟨h.v.keep T (fun i q => (F.ro i (hS i q)).2), hV, h.b.trans (T.below (B := w.heap.size) h.b.size (fun i q => (F.ro i (hS i q)).1))⟩
/-- The program's store is written beneath its view. -/
theorem Pl.store (F : Off w L R) (h : Pl w L R a b W) (base : Nat → Val) (hS : StoreAt W' L.s L.l base) (T : Turn (· = L.l) W W') : Pl w L R { a with base := base } b W' := by
  obtain ⟨er, cr, r1, r2⟩ := h.v.cr
  obtain ⟨em, cm, m1, m2⟩ := h.v.cm
  exact h.left F ⟨blk_of_turn T h.v.cv (fun q => F.vl q), hS, ⟨er, cr, blk_of_turn T r1 (fun q => F.rl q), r2⟩, ⟨em, cm, blk_of_turn T m1 (fun q => F.ml q), m2⟩, h.v.ne⟩ T (fun i q => Or.inl q)
/-- The document's store is written beneath its view. -/
theorem Pl.rstore (F : Off w L R) (h : Pl w L R a b W) (base : Nat → Val) (hS : RStoreAt W' R.d R.s base) (T : Turn (· = R.s) W W') : Pl w L R a { b with base := base } W' := by
  obtain ⟨er, cr, r1, r2⟩ := h.r.cr
  obtain ⟨em, cm, m1, m2⟩ := h.r.cm
  obtain ⟨es, cs, f, s1, _⟩ := h.r.sa.cm
  have n1 : R.q ≠ R.s := cells_ne_map h.r.cq s1
  exact h.right F ⟨blk_of_turn T h.r.cq (fun q => n1 q), hS, ⟨er, cr, blk_of_turn T r1 (fun q => h.r.ne.2.1 q.symm), r2⟩, ⟨em, cm, blk_of_turn T m1 (fun q => h.r.ne.2.2 q.symm), m2⟩, h.r.ne⟩ T (fun i q => Or.inl q)
end
theorem RViewAt.lts {W : World} {R : RLay} {st : VSt} (h : RViewAt W R st) : R.q < W.heap.size ∧ R.d < W.heap.size ∧ R.s < W.heap.size ∧ R.r < W.heap.size ∧ R.m < W.heap.size := by
  obtain ⟨_, _, hr, _⟩ := h.cr
  obtain ⟨_, _, hm, _⟩ := h.cm
  obtain ⟨_, _, _, hs, _⟩ := h.sa.cm
  exact ⟨lt_of_heap h.cq, lt_of_heap h.sa.cd, lt_of_heap hs, lt_of_heap hr, lt_of_heap hm⟩
/-- New views of the same stores. -/
theorem Off.new {w W W2 : World} {L L2 : Lay} {R R2 : RLay} (F : Off w L R) (hL : L.l < W.heap.size) (hs : L.s < W.heap.size) (hd : R.d < W.heap.size) (hr : R.s < W.heap.size) (hw : w.heap.size ≤ W.heap.size)
    (e1 : L2.s = L.s) (e2 : L2.l = L.l) (e3 : R2.d = R.d) (e4 : R2.s = R.s) (gv : W.heap.size ≤ L2.v) (gr : W.heap.size ≤ L2.r) (gm : W.heap.size ≤ L2.m) (lv : L2.v < W2.heap.size) (lr : L2.r < W2.heap.size) (lm : L2.m < W2.heap.size)
    (hq : W2.heap.size ≤ R2.q) (hr2 : W2.heap.size ≤ R2.r) (hm2 : W2.heap.size ≤ R2.m) : Off w L2 R2 := by
  have h1 := F.lo L.l (Or.inl rfl)
  have h2 := F.ro R.s (Or.inl rfl)
  have h3 := F.sl
  refine ⟨fun i hi => ?_, fun i hi => ?_, ?_, ?_, ?_, ?_⟩ <;> omega
/-- Writes put into a store, one behind the other. -/
def putAll (base : Nat → Val) (l : List Wr) : Nat → Val := l.foldl (fun b y => storePut b y.1.1 y.1.2 y.2) base
theorem putAll_step (base : Nat → Val) (l : List Wr) (j : Nat) (h : j < l.length) : putAll base (l.take (j + 1)) = storePut (putAll base (l.take j)) l[j].1.1 l[j].1.2 l[j].2 := by
  unfold putAll
  rw [List.take_succ_eq_append_getElem h, List.foldl_append]; rfl
theorem rd_len (st : VSt) : (rdP st).length ≤ 55 := rise_len _ (plF_rises _) (plF_lt _)
theorem ft_len (st : VSt) : (ftP st).length ≤ 55 := rise_len _ (plF_rises _) (plF_lt _)
theorem wrL_le (st : VSt) : (wrL st).length ≤ 55 := by rw [wrL_len]; exact rise_len _ (plF_rises _) (plF_lt _)
theorem vok_base {st : VSt} (h : VOk st) (base : Nat → Val) : VOk { st with base := base } := ⟨h.rd, h.wr⟩
theorem WL.turn {B : Nat} {S : Nat → Prop} {W W' : World} {v : Value} {l : List Wr} (h : WL B W v l) (hT : Turn S W W') (hS : ∀ i, B ≤ i → ¬ S i) : WL B W' v l := by
  refine ⟨h.1, ?_⟩
  rcases h.2 with q | ⟨g, cap, cur, h1, h2, h3, h4⟩
  · exact Or.inl q
  · exact Or.inr ⟨g, cap, cur, h1, h2, blk_of_turn hT h3 (hS g h2), h4⟩
theorem wrL_key (st : VSt) (j : Nat) (h : j < (wrL st).length) : (wrL st)[j].1.1 ≤ 9223372036854775807 := by
  have hj : j < (wrP st).length := by rw [← wrL_len]; exact h
  have hm := (plF_lt _) _ (List.getElem_mem (show j < (wrP st).length from hj))
  obtain ⟨p, hp⟩ := Int.eq_ofNat_of_zero_le hm.1
  have hk := place_keyP p (by omega)
  have := (place_range _ _ (show 0 ≤ placeI (keyP (p : Int)).1 (keyP (p : Int)).2 by rw [hk]; omega)).2.2.2.1
  have e : (wrL st)[j].1 = keyP (wrP st)[j] := by
    exact congrArg Prod.fst (List.getElem_map (fun p => (keyP p, (st.wr (keyP p).1 (keyP p).2).getD Val.zero)))
  rw [e, hp]
  omega
theorem WL.get {B : Nat} {W : World} {a : Option Addr} {n c : Nat} {l : List Wr} (h : WL B W (.slice a n c) l) (j : Nat) (hj : j < l.length) : ∃ g cur, a = some ⟨g, 0, none⟩ ∧ B ≤ g ∧ blk W g = some (.cells cur 73 (0, 0)) ∧ cur.extract (j * 19) (j * 19 + 19) = wcells l[j].1.1 l[j].1.2 l[j].2 := by
  rcases h.at with ⟨rfl, _⟩ | ⟨g, c', cur, e, _, hB, h2, h3⟩
  · simp at hj
  · injection e with e1
    exact ⟨g, cur, e1, hB, h2, h3 j hj⟩
end Go.Proofs.Ytfcgkjbifnhjjaa.St

namespace Go.Proofs.Ytfcgkjbifnhjjaa.St
open Go.RowKit Go.ChangeShapes Go.WideShapes Go.ChangeAt Go.Deep
set_option linter.unusedVariables false
variable {H : Type} {enc : TypeId × Value → H} {w : World} {held : Bool}

theorem two_of : ∀ {l : List Value}, l.length = 2 → ∃ u v, l = [u, v]
  | [u, v], _ => ⟨u, v, rfl⟩
theorem one_at {cs : List Value} {j : Nat} {v : Value} (h : (cs.drop j).take 1 = [v]) : cs[j]? = some v := by
  have := congrArg (·[0]?) h
  simpa [List.getElem?_take, List.getElem?_drop] using this
theorem trod_val {base : Nat} {spare : Nat → Bool} {fuel : Nat} {cs : List Value} {y : DataW H × List MemPlace} (h : DataW.trod enc Try.prog w base spare held fuel 47 cs = some y) :
    ∃ x : Val, cs = x.cells.toList ∧ (∀ i, i < 16 → (Lit.int .i64 (x.n i)).wf = true) ∧ x.s.size ≤ maxLen := by
  obtain ⟨xs, n, _, _, hl, hxl, hf⟩ := DataW.trod_struct Try.underlying47 h
  have hl17 : cs.length = 17 := by rw [hl]; kernel_rfl
  have h0 : DataW.trod enc Try.prog w base spare held n 45 ((cs.drop 0).take (Try.prog.cellsOf 45)) = xs[0]? := hf 0 _ rfl
  have h1 : DataW.trod enc Try.prog w base spare held n 9 ((cs.drop 16).take (Try.prog.cellsOf 9)) = xs[1]? := hf 1 _ rfl
  simp only [List.drop_zero] at h0
  rw [show Try.prog.cellsOf 45 = 16 by kernel_rfl] at h0
  rw [show Try.prog.cellsOf 9 = 1 by kernel_rfl] at h1
  obtain ⟨y0, e0⟩ : ∃ y, xs[0]? = some y := ⟨xs[0]'(by rw [hxl]; decide), by simp⟩
  obtain ⟨y1, e1⟩ : ∃ y, xs[1]? = some y := ⟨xs[1]'(by rw [hxl]; decide), by simp⟩
  rw [e0] at h0
  rw [e1] at h1
  obtain ⟨s, q1, _, ws⟩ := DataW.trod_string Try.underlying9 h1
  have hs := one_at q1
  obtain ⟨zs, m, _, _, _, hzl, hg⟩ := DataW.trod_array Try.underlying45 h0
  have key : ∀ i : Nat, ∃ n : Int, i < 16 → cs[i]? = some (.int .i64 n) ∧ (Lit.int .i64 n).wf = true := by
    intro i
    by_cases hi : i < 16
    · have hgi := hg i hi
      rw [show Try.prog.cellsOf 3 = 1 by kernel_rfl, Nat.mul_one] at hgi
      obtain ⟨y, e⟩ : ∃ y, zs[i]? = some y := ⟨zs[i]'(by omega), by simp⟩
      rw [e] at hgi
      obtain ⟨a, q, _, wa⟩ := DataW.trod_int Try.underlying3 hgi
      have := one_at q
      rw [List.getElem?_take, if_pos hi] at this
      exact ⟨a, fun _ => ⟨this, wa⟩⟩
    · exact ⟨0, fun q => absurd q hi⟩
  obtain ⟨f, hfn⟩ := Classical.axiomOfChoice key
  refine ⟨⟨f, s⟩, ?_, fun i hi => (hfn i hi).2, ws⟩
  apply List.ext_getElem?
  intro i
  by_cases hi : i < 17
  · have : i = 0 ∨ i = 1 ∨ i = 2 ∨ i = 3 ∨ i = 4 ∨ i = 5 ∨ i = 6 ∨ i = 7 ∨ i = 8 ∨ i = 9 ∨ i = 10 ∨ i = 11 ∨ i = 12 ∨ i = 13 ∨ i = 14 ∨ i = 15 ∨ i = 16 := by omega
    rcases this with rfl | rfl | rfl | rfl | rfl | rfl | rfl | rfl | rfl | rfl | rfl | rfl | rfl | rfl | rfl | rfl | rfl
    all_goals first
      | (rw [(hfn _ (by decide)).1]; rfl)
      | (rw [hs]; rfl)
  · rw [List.getElem?_eq_none (by omega), List.getElem?_eq_none (by simp [Val.cells]; omega)]
theorem trod_key {base : Nat} {spare : Nat → Bool} {fuel : Nat} {cs : List Value} {y : DataW H × List MemPlace} (h : DataW.trod enc Try.prog w base spare held fuel 51 cs = some y) :
    ∃ k n : Int, cs = [.int .i64 k, .int .i64 n] ∧ (Lit.int .i64 k).wf = true ∧ (Lit.int .i64 n).wf = true := by
  obtain ⟨xs, n, _, _, hl, hxl, hf⟩ := DataW.trod_struct Try.underlying51 h
  have hl2 : cs.length = 2 := by rw [hl]; kernel_rfl
  have h0 : DataW.trod enc Try.prog w base spare held n 3 ((cs.drop 0).take (Try.prog.cellsOf 3)) = xs[0]? := hf 0 _ rfl
  have h1 : DataW.trod enc Try.prog w base spare held n 3 ((cs.drop 1).take (Try.prog.cellsOf 3)) = xs[1]? := hf 1 _ rfl
  rw [show Try.prog.cellsOf 3 = 1 by kernel_rfl] at h0 h1
  obtain ⟨y0, e0⟩ : ∃ y, xs[0]? = some y := ⟨xs[0]'(by rw [hxl]; decide), by simp⟩
  obtain ⟨y1, e1⟩ : ∃ y, xs[1]? = some y := ⟨xs[1]'(by rw [hxl]; decide), by simp⟩
  rw [e0] at h0
  rw [e1] at h1
  obtain ⟨a, q0, _, wa⟩ := DataW.trod_int Try.underlying3 h0
  obtain ⟨b, q1, _, wb⟩ := DataW.trod_int Try.underlying3 h1
  have r0 := one_at q0
  have r1 := one_at q1
  refine ⟨a, b, ?_, wa, wb⟩
  obtain ⟨u, v, rfl⟩ := two_of hl2
  simp at r0 r1
  rw [r0, r1]
theorem trod_write {base : Nat} {spare : Nat → Bool} {fuel : Nat} {cs : List Value} {y : DataW H × List MemPlace} (h : DataW.trod enc Try.prog w base spare held fuel 73 cs = some y) :
    ∃ q : Wr, cs = wcs q ∧ (Lit.int .i64 q.1.1).wf = true ∧ (Lit.int .i64 q.1.2).wf = true ∧ (∀ i, i < 16 → (Lit.int .i64 (q.2.n i)).wf = true) ∧ q.2.s.size ≤ maxLen := by
  obtain ⟨xs, n, _, _, hl, hxl, hf⟩ := DataW.trod_struct Try.underlying73 h
  have hl19 : cs.length = 19 := by rw [hl]; kernel_rfl
  have h1 : DataW.trod enc Try.prog w base spare held n 51 ((cs.drop 0).take (Try.prog.cellsOf 51)) = xs[0]? := hf 0 _ rfl
  have h2 : DataW.trod enc Try.prog w base spare held n 47 ((cs.drop 2).take (Try.prog.cellsOf 47)) = xs[1]? := hf 1 _ rfl
  rw [show Try.prog.cellsOf 51 = 2 by kernel_rfl] at h1
  rw [show Try.prog.cellsOf 47 = 17 by kernel_rfl] at h2
  obtain ⟨y1, e1⟩ : ∃ y, xs[0]? = some y := ⟨xs[0]'(by rw [hxl]; decide), by simp⟩
  obtain ⟨y2, e2⟩ : ∃ y, xs[1]? = some y := ⟨xs[1]'(by rw [hxl]; decide), by simp⟩
  rw [e1] at h1
  rw [e2] at h2
  obtain ⟨k, m, q1, wk, wm⟩ := trod_key h1
  obtain ⟨x, q2, wx, ws⟩ := trod_val h2
  refine ⟨((k, m), x), ?_, wk, wm, wx, ws⟩
  have e : cs = cs.take 2 ++ (cs.drop 2).take 17 := by
    rw [show (cs.drop 2).take 17 = cs.drop 2 from List.take_of_length_le (by simp; omega)]
    rw [List.take_append_drop]
  rw [List.drop_zero] at q1
  rw [e, q1, q2]; rfl
/-- A slice of writes. -/
def IsWrites (w : World) (a : Option Addr) (len cap : Nat) (z : Nat → Wr) : Prop :=
  (a = none ∧ len = 0 ∧ cap = 0) ∨
  ∃ x, a = some x ∧ len ≤ cap ∧ cap ≤ maxLen ∧ ∀ i, i < len → (∀ j v, (wcs (z i))[j]? = some v → w.cell? (x.add (i * 19 + j)) = some v) ∧
    (Lit.int .i64 (z i).1.1).wf = true ∧ (Lit.int .i64 (z i).1.2).wf = true ∧ (∀ j, j < 16 → (Lit.int .i64 ((z i).2.n j)).wf = true) ∧ (z i).2.s.size ≤ maxLen
theorem open_writes {t : TypeId} {fuel : Nat} {a : Option Addr} {len cap : Nat} {x : DataW H × List MemPlace} (ht : Try.prog.underlying t = some (.slice 73))
    (h : DataW.trod enc Try.prog w 0 (fun _ => true) held fuel t [.slice a len cap] = some x) : ∃ z, IsWrites w a len cap z := by
  rcases open_slice ht h with ⟨hcs, _⟩ | ⟨x, l, c, m, n, D, Pl, hcs, _, hl, hm, hmm, _, hi⟩
  · simp at hcs
    obtain ⟨rfl, rfl, rfl⟩ := hcs
    exact ⟨fun _ => ((0, 0), Val.zero), .inl ⟨rfl, rfl, rfl⟩⟩
  · simp at hcs
    obtain ⟨rfl, rfl, rfl⟩ := hcs
    have hm2 : m = cap := by simpa using hmm
    have key : ∀ i : Nat, ∃ q : Wr, i < len → (∀ j v, (wcs q)[j]? = some v → w.cell? (x.add (i * 19 + j)) = some v) ∧
        (Lit.int .i64 q.1.1).wf = true ∧ (Lit.int .i64 q.1.2).wf = true ∧ (∀ j, j < 16 → (Lit.int .i64 (q.2.n j)).wf = true) ∧ q.2.s.size ≤ maxLen := by
      intro i
      by_cases hij : i < len
      · obtain ⟨cs, hc, htr⟩ := hi i (by omega)
        rw [show Try.prog.cellsOf 73 = 19 by kernel_rfl] at hc
        obtain ⟨q, e, rest⟩ := trod_write htr
        obtain ⟨_, hcl, hat⟩ := World.cells?_some hc
        refine ⟨q, fun _ => ⟨fun j v hv => ?_, rest⟩⟩
        rw [← e] at hv
        have hj : j < 19 := by
          obtain ⟨p, _⟩ := List.getElem?_eq_some_iff.1 hv
          omega
        rw [← add_add, hat j hj]; exact hv
      · exact ⟨((0, 0), Val.zero), fun q => absurd q hij⟩
    obtain ⟨z, hz⟩ := Classical.axiomOfChoice key
    exact ⟨z, .inr ⟨x, rfl, hl, hm, hz⟩⟩
theorem add_two' (x : Addr) (i j : Nat) : (x.add i).add j = x.add (i + j) := by
  unfold Addr.add
  by_cases h : i = 0
  · subst h; simp
  · by_cases h2 : j = 0
    · subst h2; simp [h]
    · simp [h, h2]; omega
/-- The writes of a slice, one by one. -/
theorem IsWrites.at {w : World} {a : Option Addr} {len cap : Nat} {z : Nat → Wr} (h : IsWrites w a len cap z) (j : Nat) (hj : j < len) : ∃ x, a = some x ∧ len ≤ cap ∧ (∀ i v, (wcs (z j))[i]? = some v → w.cell? ((x.add (j * 19)).add i) = some v) ∧ (z j).1.1 ≤ 9223372036854775807 ∧ (z j).2.s.size ≤ maxLen := by
  rcases h with ⟨_, h, _⟩ | ⟨x, rfl, hl, _, hx⟩
  · omega
  · obtain ⟨hc, hk, _, _, hs⟩ := hx j hj
    refine ⟨x, rfl, hl, fun i v hv => by rw [add_two']; exact hc i v hv, ?_, hs⟩
    simp only [Lit.wf, Bool.and_eq_true, decide_eq_true_eq] at hk
    have h2 : IntKind.max .i64 = 9223372036854775807 := by decide
    omega
/-- A write loaded whole from somewhere. -/
theorem run_loadW_at (W : World) (a : Addr) (y : Wr) (h : ∀ j v, (wcs y)[j]? = some v → W.cell? (a.add j) = some v) :
    (loadW (.pointer (some a))).run Try.prog W = .ok (.value (.agg (wcells y.1.1 y.1.2 y.2))) W := by
  obtain ⟨fs, hu⟩ := write_struct
  have hl := run_loadCells_list (P := Try.prog) W a (wcs y) h
  rw [wcs_len] at hl
  have hi := write_size
  cases hq : Try.prog.info? 73 with
  | none => simp [hq] at hi
  | some i =>
    have hs : i.size = 19 := by simpa [hq] using hi
    have hagg : (isAgg 73).run Try.prog W = .ok true W := by
      unfold isAgg
      rw [Sem.run_bind, run_underlying hu W]
      simp
    have hw : (wcs y).toArray = wcells y.1.1 y.1.2 y.2 := by unfold wcs; simp
    have hv : (loadVar 73 a).run Try.prog W = .ok (.agg (wcells y.1.1 y.1.2 y.2)) W := by
      simp [loadVar, Sem.run_bind, hagg, sizeOf, typeInfo, hq, hs, hl, hw]
    unfold loadW
    simp only [Instr.loadAt, Instr.sureAddr, Sem.run_bind, Sem.run_pure, Result.andThen_ok, hv]
end Go.Proofs.Ytfcgkjbifnhjjaa.St

namespace Go.Proofs.Ytfcgkjbifnhjjaa.St
open Go.RowKit
set_option linter.unusedVariables false

attribute [local go_sem] blk_alloc_at blk_alloc_past blk_drew blk_drewN blk_setB_same blk_setB_other blk_setRow_other setRow_alloc_at setRow_alloc_past setRow_drewN setRow_drew setB_size setB_cell setB_frozen setB_alloc_past setB_drewN setB_drew
attribute [local go_sem ↓] wp_at0 wp_at1 wp_at2 wp_at3 wp_at4 wp_at5 wp_at6 wp_at7 wp_at8 wp_at9 wp_at10 wp_at11 wp_at12 wp_at13 wp_at14 wp_at15 wp_at16 wp_at17

/-- A document's view that has read and written nothing. -/
def RNew (W : World) (q d B : Nat) : Prop := ∃ r m, blk W q = some (.cells #[.pointer (some ⟨d, 0, none⟩), .map (some r), .map (some m)] 87 (0, 0)) ∧ blk W r = some (.map #[] 0) ∧ blk W m = some (.map #[] 0) ∧ B ≤ q ∧ B ≤ r ∧ B ≤ m ∧ r ≠ m

theorem rview_new (d : Nat) (w : World) :
    Calls Try.prog 67 #[.pointer (some ⟨d, 0, none⟩)] w fun e w' => ∃ q, e = .returned (.pointer (some ⟨q, 0, none⟩)) ∧ RNew w' q d w.heap.size ∧ Below w.heap.size w w' ∧ q < w'.heap.size := by
  refine (rview_any d w).mono ?_
  rintro e w' ⟨rfl, rfl⟩
  refine ⟨_, rfl, ⟨w.heap.size, w.heap.size + 1, blk_alloc_at _ _ _ (by simp), ?_, ?_, by omega, Nat.le_refl _, by omega, by omega⟩, (((Below.refl _ _).alloc (Nat.le_refl _) _).alloc (by simp) _).alloc (by simp; omega) _, by simp⟩
  · rw [blk_alloc_past _ _ _ (by simp; omega), blk_alloc_past _ _ _ (by simp), blk_alloc_at _ _ _ rfl]
  · rw [blk_alloc_past _ _ _ (by simp), blk_alloc_at _ _ _ (by simp)]

/-- The two stores with their views. -/
def TwoAt (W : World) (t s v d q : Nat) : Prop := blk W t = some (.cells #[.pointer (some ⟨s, 0, none⟩), .pointer (some ⟨v, 0, none⟩), .pointer (some ⟨d, 0, none⟩), .pointer (some ⟨q, 0, none⟩)] 35 (0, 0))

set_option maxRecDepth 100000 in
theorem tlook_any (t s l d : Nat) (v0 q0 : Value) (base : Nat → Val) (w : World) (hS : StoreAt w s l base) (hT : blk w t = some (.cells #[.pointer (some ⟨s, 0, none⟩), v0, .pointer (some ⟨d, 0, none⟩), q0] 35 (0, 0))) (hts : t ≠ s) (htl : t ≠ l) :
    Calls Try.prog 41 #[.pointer (some ⟨t, 0, none⟩)] w fun e w' => ∃ L : Lay, ∃ q, L.s = s ∧ L.l = l ∧ e = .returned (.tuple #[]) ∧ TwoAt w' t s L.v d q ∧ ViewAt w' L (VSt.fresh base) ∧ RNew w' q d w.heap.size ∧ Turn (· = t) w w' ∧ w.heap.size ≤ L.v ∧ w.heap.size ≤ L.r ∧ w.heap.size ≤ L.m := by
  have c0 := cell_of_row w t 0 _ _ _ hT
  have c2 := cell_of_row w t 2 _ _ _ hT
  simp at c0 c2
  have lt := blk_lt hT
  have hTd : blk w.drew t = _ := (blk_drew w t).trans hT
  have hSd : StoreAt w.drew s l base := hS.keep (S := fun _ => False) (Turn.refl _ _).drew (fun q => q) (fun q => q)
  have ltd : t < w.drew.heap.size := lt
  go_enter Try.func41, Try.ntmps41
  go_wp2_with fail
  go_region_with (first
    | (go_at_call 60; refine (look_any s l base _ hSd).mono ?_; rintro e w1 ⟨L, rfl, rfl, rfl, hv1, t1, gv, gr, gm⟩; have hT1 := blk_below t1 hTd ltd; have lt1 := blk_lt hT1; have d0 := cell_of_row w1 t 0 _ _ _ hT1; have d1 := cell_of_row w1 t 1 _ _ _ hT1; have d2 := cell_of_row w1 t 2 _ _ _ hT1; have d3 := cell_of_row w1 t 3 _ _ _ hT1; simp at d0 d1 d2 d3)
    | (go_at_call 67; refine (rview_new d _).mono ?_; rintro e w2 ⟨q, rfl, hq, t2, gq⟩; have hT2 := blk_below t2 hT1 lt1; have hv2 := hv1.below t2; have lt2 := blk_lt hT2; have e0 := cell_of_row w2 t 0 _ _ _ hT2; have e1 := cell_of_row w2 t 1 _ _ _ hT2; have e2 := cell_of_row w2 t 2 _ _ _ hT2; have e3 := cell_of_row w2 t 3 _ _ _ hT2; simp at e0 e1 e2 e3; have f2 := frozen_blk hT2))
  all_goals
    go_wp2_with fail
    go_end0
    have b1 := blk_setCell_same hT2 1 (Value.pointer (some ⟨L.v, 0, none⟩))
    have b2 := blk_setCell_same b1 3 (Value.pointer (some ⟨q, 0, none⟩))
    have z1 := t1.size
    have z2 := t2.size
    have z0 : w.drew.heap.size = w.heap.size := rfl
    have tt : Turn (· = t) w2 ((w2.setCell ⟨t, 1, none⟩ (Value.pointer (some ⟨L.v, 0, none⟩))).setCell ⟨t, 3, none⟩ (Value.pointer (some ⟨q, 0, none⟩))) :=
      ((Turn.refl (· = t) w2).setCell (p := ⟨t, 1, none⟩) (Or.inl (show t = t from rfl)) _).setCell (p := ⟨t, 3, none⟩) (Or.inl (show t = t from rfl)) _
    have tw : Turn (· = t) w w2 := ((Turn.refl _ _).drew.trans (Turn.of_below t1 _)).trans (Turn.of_below t2 _)
    refine ⟨L, q, rfl, rfl, rfl, b2, hv2.keep tt ?_, ?_, tw.trans tt, by omega, by omega, by omega⟩
    · rintro i rfl
      exact ⟨by omega, hts, htl, by omega, by omega⟩
    · obtain ⟨r, m, h1, h2, h3, h4, h5, h6, h7⟩ := hq
      exact ⟨r, m, blk_of_turn tt h1 (by omega), blk_of_turn tt h2 (by omega), blk_of_turn tt h3 (by omega), by omega, by omega, by omega, h7⟩

set_option maxRecDepth 100000 in
theorem tnew_nil (w : World) :
    Calls Try.prog 5 #[.slice none 0 0] w fun e w' => ∃ t d q, ∃ L : Lay, e = .returned (.pointer (some ⟨t, 0, none⟩)) ∧ TwoAt w' t L.s L.v d q ∧ ViewAt w' L (VSt.fresh fun _ => Val.zero) ∧ RNew w' q d w.heap.size ∧ Below w.heap.size w w' ∧
      w.heap.size ≤ t ∧ w.heap.size ≤ d ∧ w.heap.size ≤ L.v ∧ w.heap.size ≤ L.s ∧ w.heap.size ≤ L.l ∧ w.heap.size ≤ L.r ∧ w.heap.size ≤ L.m := by
  go_enter Try.func5, Try.ntmps5
  go_wp2_with fail
  refine (new_any _).mono ?_; rintro e w1 ⟨s, l, rfl, hS, t1, gs, gl⟩
  go_wp2_with fail
  refine (rstore_any _).mono ?_; rintro e w2 ⟨rfl, rfl⟩
  go_wp2_with fail
  have z1 := t1.size
  have lw := hS.lts
  obtain ⟨cl0, hcl, _⟩ := hS.cl
  have ll := lt_of_heap hcl
  have hS3 := hS.keep (Turn.of_below (((Below.refl _ w1).alloc (Nat.le_refl _) (Obj.map #[] 0)).alloc (by simp) (Obj.cells #[Value.map (some w1.heap.size)] 89)) (fun _ => False)) (fun q => q) (fun q => q)
  have hS4 := hS3.keep (Turn.of_below ((Below.refl _ _).alloc (Nat.le_refl _) (Obj.cells #[Value.pointer (some ⟨s, 0, none⟩), .pointer none, .pointer (some ⟨w1.heap.size + 1, 0, none⟩), .pointer none] 35)) (fun _ => False)) (fun q => q) (fun q => q)
  go_loop [4] (fun i => i = .int .i64 0) (fun _ => 0)
  case atStart => rfl
  case round =>
    obtain rfl := hrel
    go_wp2_with fail
    refine (tlook_any (w1.heap.size + 1 + 1) s l (w1.heap.size + 1) (.pointer none) (.pointer none) _ _ hS4 (blk_alloc_at _ _ _ (by simp)) (by omega) (by omega)).mono ?_
    rintro e w3 ⟨L, q, rfl, rfl, rfl, hT3, hv3, hq3, t3, gv, gr, gm⟩
    have d1 := cell_of_row w3 _ 1 _ _ _ hT3
    simp at d1
    have zz : w1.heap.size + 1 + 1 + 1 = (((w1.alloc (Obj.map #[] 0)).alloc (Obj.cells #[Value.map (some w1.heap.size)] 89)).alloc (Obj.cells #[Value.pointer (some ⟨L.s, 0, none⟩), .pointer none, .pointer (some ⟨w1.heap.size + 1, 0, none⟩), .pointer none] 35)).heap.size := by simp
    have tb : Below w.heap.size w w3 := by
      refine t1.trans ((((((Below.refl _ w1).alloc z1 _).alloc (by simp; omega) _).alloc (by simp; omega) _)).trans ((t3.below (B := w1.heap.size) (by rw [← zz]; omega) (fun i q => by have : i = w1.heap.size + 1 + 1 := q; omega)).mono z1))
    clear hS3 hS4 hcl
    go_wp2_with fail
    go_ret
    obtain ⟨r, m, h1, h2, h3, h4, h5, h6, h7⟩ := hq3
    exact ⟨_, _, q, L, rfl, hT3, hv3, ⟨r, m, h1, h2, h3, by omega, by omega, by omega, h7⟩, tb, by omega, by omega, by omega, by omega, by omega, by omega, by omega⟩
end Go.Proofs.Ytfcgkjbifnhjjaa.St

namespace Go.Proofs.Ytfcgkjbifnhjjaa.St
open Go.RowKit
set_option linter.unusedVariables false
/-- The program's view is in state a, the document's in state b. -/
structure Dbl (w : World) (t : Nat) (L : Lay) (R : RLay) (a b : VSt) (W : World) : Prop where
  p : Pl w L R a b W
  f : Off w L R
  tw : TwoAt W t L.s L.v R.d R.q
  tz : w.heap.size ≤ t
section
variable {w : World} {t : Nat} {L : Lay} {R : RLay} {a b a' b' : VSt} {W W' : World}
/-- A block of cells that are no values is none of those that calls change. -/
theorem Pl.far (h : Pl w L R a b W) {g : Nat} {c : Array Value} {ty : TypeId} {fz : Nat × Nat} (hg : blk W g = some (.cells c ty fz)) (ht : ty ≠ 47) : g ≠ L.l ∧ g ≠ L.r ∧ g ≠ L.m ∧ g ≠ R.s ∧ g ≠ R.r ∧ g ≠ R.m := by
  obtain ⟨_, hl, _⟩ := h.v.sa.cl
  obtain ⟨_, _, hr, _⟩ := h.v.cr
  obtain ⟨_, _, hm, _⟩ := h.v.cm
  obtain ⟨_, _, qr, _⟩ := h.r.cr
  obtain ⟨_, _, qm, _⟩ := h.r.cm
  obtain ⟨_, _, _, qs, _⟩ := h.r.sa.cm
  refine ⟨fun e => ?_, cells_ne_map hg hr, cells_ne_map hg hm, cells_ne_map hg qs, cells_ne_map hg qr, cells_ne_map hg qm⟩
  subst e
  unfold blk at hg
  rw [hl] at hg
  injection hg with hg
  injection hg with _ hg
  exact ht hg.symm
theorem Dbl.far (h : Dbl w t L R a b W) : t ≠ L.l ∧ t ≠ L.r ∧ t ≠ L.m ∧ t ≠ R.s ∧ t ≠ R.r ∧ t ≠ R.m := h.p.far h.tw (by decide)
theorem Dbl.below (h : Dbl w t L R a b W) (hb : Below W.heap.size W W') : Dbl w t L R a b W' := ⟨h.p.below hb, h.f, blk_below hb h.tw (blk_lt h.tw), h.tz⟩
theorem Dbl.left {S : Nat → Prop} (h : Dbl w t L R a b W) (hV : ViewAt W' L a') (T : Turn S W W') (hS : ∀ i, S i → i = L.l ∨ i = L.r ∨ i = L.m) : Dbl w t L R a' b W' :=
  ⟨h.p.left h.f hV T hS, h.f, blk_of_turn T h.tw (fun q => by have := hS t q; have := h.far; omega), h.tz⟩
theorem Dbl.right {S : Nat → Prop} (h : Dbl w t L R a b W) (hV : RViewAt W' R b') (T : Turn S W W') (hS : ∀ i, S i → i = R.s ∨ i = R.r ∨ i = R.m) : Dbl w t L R a b' W' :=
  ⟨h.p.right h.f hV T hS, h.f, blk_of_turn T h.tw (fun q => by have := hS t q; have := h.far; omega), h.tz⟩
theorem Dbl.cv (h : Dbl w t L R a b W) : W.cell? ⟨t, 1, none⟩ = some (.pointer (some ⟨L.v, 0, none⟩)) := by
  have c := cell_of_row W t 1 _ _ _ h.tw
  simpa using c
theorem Dbl.cq (h : Dbl w t L R a b W) : W.cell? ⟨t, 3, none⟩ = some (.pointer (some ⟨R.q, 0, none⟩)) := by
  have c := cell_of_row W t 3 _ _ _ h.tw
  simpa using c
theorem Dbl.cs (h : Dbl w t L R a b W) : W.cell? ⟨t, 0, none⟩ = some (.pointer (some ⟨L.s, 0, none⟩)) := by
  have c := cell_of_row W t 0 _ _ _ h.tw
  simpa using c
theorem Dbl.cd (h : Dbl w t L R a b W) : W.cell? ⟨t, 2, none⟩ = some (.pointer (some ⟨R.d, 0, none⟩)) := by
  have c := cell_of_row W t 2 _ _ _ h.tw
  simpa using c
end
end Go.Proofs.Ytfcgkjbifnhjjaa.St

namespace Go.Proofs.Ytfcgkjbifnhjjaa.St
open Go.RowKit
set_option linter.unusedVariables false
attribute [local go_sem] blk_alloc_at blk_alloc_past blk_drew blk_drewN blk_setB_same blk_setB_other blk_setRow_other setRow_alloc_at setRow_alloc_past setRow_drewN setRow_drew setB_size setB_cell setB_frozen setB_alloc_past setB_drewN setB_drew run_loadV loadOr_cells run_storeV storeOr_cells cells_size ones_cells
attribute [local go_sem ↓] execOp_loadV execOp_storeV execOp_loadW execOp_storeW
attribute [local irreducible] Int.lt Int.le
abbrev zW : Array Value := #[.int .i64 0, .int .i64 0, .int .i64 0, .int .i64 0, .int .i64 0, .int .i64 0, .int .i64 0, .int .i64 0, .int .i64 0, .int .i64 0, .int .i64 0, .int .i64 0, .int .i64 0, .int .i64 0, .int .i64 0, .int .i64 0, .int .i64 0, .int .i64 0, .string ⟨#[]⟩]
/-- The cells of the two that a region reads. -/
abbrev TC (t : Nat) (x0 x1 x2 x3 : Nat) (W : World) : Prop := W.cell? ⟨t, 0, none⟩ = some (.pointer (some ⟨x0, 0, none⟩)) ∧ W.cell? ⟨t, 1, none⟩ = some (.pointer (some ⟨x1, 0, none⟩)) ∧ W.cell? ⟨t, 2, none⟩ = some (.pointer (some ⟨x2, 0, none⟩)) ∧ W.cell? ⟨t, 3, none⟩ = some (.pointer (some ⟨x3, 0, none⟩))
section
variable {w : World} {t : Nat} {L : Lay} {R : RLay} {a b : VSt} {W W' : World}
theorem Dbl.tc (h : Dbl w t L R a b W) : TC t L.s L.v R.d R.q W := ⟨h.cs, h.cv, h.cd, h.cq⟩
set_option maxRecDepth 100000 in
set_option maxHeartbeats 1000000 in
/-- Two.Same, where the views are in one state. -/
theorem dsame_any (H : Dbl w t L R a a W) (ok : VOk a) : Calls Try.prog 23 #[.pointer (some ⟨t, 0, none⟩)] W fun e W' => e = .returned (.bool true) ∧ Below W.heap.size W W' := by
  go_enter Try.func23, Try.ntmps23
  go_upto_region 1 with fail
  have t0 : Below W.heap.size W W.drew := below_drewN (Below.refl _ W) 1
  have H0 := H.below t0
  have B0 := t0
  refine wp_region_held_drew (S := TC t L.s L.v R.d R.q) (by kernel_rfl) H0.tc (fun hHeld => ?_)
  clear t0 H
  refine reg_take (i := 0) (v := ?_) rfl rfl (by kernel_rfl) (by kernel_rfl) (by kernel_rfl) (fun _ _ _ h => h) (by assumption) (by rfl) ?_ ?_
  rotate_left 1
  · (intro w hSw; (try dsimp only at hSw); go_simp; try with_reducible rfl)
  try simp only [List.setIfInBounds_toArray, List.set_cons_zero, List.set_cons_succ]
  refine reg_take (i := 1) (v := ?_) rfl rfl (by kernel_rfl) (by kernel_rfl) (by kernel_rfl) (fun _ _ _ h => h) (by assumption) (by rfl) ?_ ?_
  rotate_left 1
  · (intro w hSw; (try dsimp only at hSw); go_simp; try with_reducible rfl)
  try simp only [List.setIfInBounds_toArray, List.set_cons_zero, List.set_cons_succ]
  refine reg_take (i := 2) (v := ?_) rfl rfl (by kernel_rfl) (by kernel_rfl) (by kernel_rfl) (fun _ _ _ h => h) (by assumption) (by rfl) ?_ ?_
  rotate_left 1
  · (intro w hSw; (try dsimp only at hSw); go_simp; try with_reducible rfl)
  try simp only [List.setIfInBounds_toArray, List.set_cons_zero, List.set_cons_succ]
  refine reg_take (i := 3) (v := ?_) rfl rfl (by kernel_rfl) (by kernel_rfl) (by kernel_rfl) (fun _ _ _ h => h) (by assumption) (by rfl) ?_ ?_
  rotate_left 1
  · (intro w hSw; (try dsimp only at hSw); go_simp; try with_reducible rfl)
  try simp only [List.setIfInBounds_toArray, List.set_cons_zero, List.set_cons_succ]
  refine reg_take (i := 5) (v := ?_) rfl rfl (by kernel_rfl) (by kernel_rfl) (by kernel_rfl) (fun _ _ _ h => h) (by assumption) (by rfl) ?_ ?_
  rotate_left 1
  · (intro w hSw; (try dsimp only at hSw); go_simp; try with_reducible rfl)
  try simp only [List.setIfInBounds_toArray, List.set_cons_zero, List.set_cons_succ]
  refine reg_take (i := 6) (v := ?_) rfl rfl (by kernel_rfl) (by kernel_rfl) (by kernel_rfl) (fun _ _ _ h => h) (by assumption) (by rfl) ?_ ?_
  rotate_left 1
  · (intro w hSw; (try dsimp only at hSw); go_simp; try with_reducible rfl)
  try simp only [List.setIfInBounds_toArray, List.set_cons_zero, List.set_cons_succ]
  refine reg_take (i := 7) (v := ?_) rfl rfl (by kernel_rfl) (by kernel_rfl) (by kernel_rfl) (fun _ _ _ h => h) (by assumption) (by rfl) ?_ ?_
  rotate_left 1
  · (intro w hSw; (try dsimp only at hSw); go_simp; try with_reducible rfl)
  try simp only [List.setIfInBounds_toArray, List.set_cons_zero, List.set_cons_succ]
  refine reg_take (i := 8) (v := ?_) rfl rfl (by kernel_rfl) (by kernel_rfl) (by kernel_rfl) (fun _ _ _ h => h) (by assumption) (by rfl) ?_ ?_
  rotate_left 1
  · (intro w hSw; (try dsimp only at hSw); go_simp; try with_reducible rfl)
  try simp only [List.setIfInBounds_toArray, List.set_cons_zero, List.set_cons_succ]
  refine reg_step (i := 4) (by kernel_rfl) rfl (by rfl) (fun KC hKC => ?_)
  go_simp
  refine (vreads_any L a _ H0.p.v ok).mono ?_; rintro e w3 ⟨v3, rfl, hkl, t3⟩
  have H3 := H0.below t3
  have B3 := B0.trans (t3.mono B0.size)
  obtain ⟨a3, c3, rfl, hk3, _, _⟩ := hkl.kr
  clear H0 t3 hHeld hkl B0
  refine hKC.out _ _ ?_ (fun hHeld => ?_)
  · exact H3.tc
  clear hKC KC
  refine reg_step (i := 9) (by kernel_rfl) rfl (by rfl) (fun KC hKC => ?_)
  go_simp
  refine (rvreads_any R a _ H3.p.r ok).mono ?_; rintro e w4 ⟨v4, rfl, hkl, t4⟩
  have H4 := H3.below t4
  have hk34 := hk3.below t4
  have B4 := B3.trans (t4.mono B3.size)
  obtain ⟨a4, c4, rfl, hk4, _, _⟩ := hkl.kr
  clear H3 t4 hHeld hkl hk3 B3
  refine hKC.out _ _ ?_ (fun hHeld => ?_)
  · exact H4.tc
  clear hKC KC
  refine reg_step (i := 10) (by kernel_rfl) rfl (by rfl) (fun KC hKC => ?_)
  go_simp
  refine (same_yes a3 a4 (rdP a).length c3 c4 w4 (by have := rd_len a; omega) (same_kr hk34 hk4)).mono ?_; rintro e w5 ⟨rfl, t5⟩
  have H5 := H4.below t5
  have B5 := B4.trans (t5.mono B4.size)
  clear H4 t5 hHeld hk34 hk4 B4
  refine hKC.out _ _ ?_ (fun hHeld => ?_)
  · exact H5.tc
  clear hKC KC
  refine reg_take (i := 11) (v := ?_) rfl rfl (by kernel_rfl) (by kernel_rfl) (by kernel_rfl) (fun _ _ _ h => h) (by assumption) (by rfl) ?_ ?_
  rotate_left 1
  · (intro w hSw; (try dsimp only at hSw); go_simp; try with_reducible rfl)
  try simp only [List.setIfInBounds_toArray, List.set_cons_zero, List.set_cons_succ]
  refine reg_take (i := 12) (v := ?_) rfl rfl (by kernel_rfl) (by kernel_rfl) (by kernel_rfl) (fun _ _ _ h => h) (by assumption) (by rfl) ?_ ?_
  rotate_left 1
  · (intro w hSw; (try dsimp only at hSw); go_simp; try with_reducible rfl)
  try simp only [List.setIfInBounds_toArray, List.set_cons_zero, List.set_cons_succ]
  refine reg_take (i := 13) (v := ?_) rfl rfl (by kernel_rfl) (by kernel_rfl) (by kernel_rfl) (fun _ _ _ h => h) (by assumption) (by rfl) ?_ ?_
  rotate_left 1
  · (intro w hSw; (try dsimp only at hSw); go_simp; try with_reducible rfl)
  try simp only [List.setIfInBounds_toArray, List.set_cons_zero, List.set_cons_succ]
  refine reg_take (i := 14) (v := ?_) rfl rfl (by kernel_rfl) (by kernel_rfl) (by kernel_rfl) (fun _ _ _ h => h) (by assumption) (by rfl) ?_ ?_
  rotate_left 1
  · (intro w hSw; (try dsimp only at hSw); go_simp; try with_reducible rfl)
  try simp only [List.setIfInBounds_toArray, List.set_cons_zero, List.set_cons_succ]
  refine reg_take (i := 15) (v := ?_) rfl rfl (by kernel_rfl) (by kernel_rfl) (by kernel_rfl) (fun _ _ _ h => h) (by assumption) (by rfl) ?_ ?_
  rotate_left 1
  · (intro w hSw; (try dsimp only at hSw); go_simp; try with_reducible rfl)
  try simp only [List.setIfInBounds_toArray, List.set_cons_zero, List.set_cons_succ]
  refine reg_take (i := 17) (v := ?_) rfl rfl (by kernel_rfl) (by kernel_rfl) (by kernel_rfl) (fun _ _ _ h => h) (by assumption) (by rfl) ?_ ?_
  rotate_left 1
  · (intro w hSw; (try dsimp only at hSw); go_simp; try with_reducible rfl)
  try simp only [List.setIfInBounds_toArray, List.set_cons_zero, List.set_cons_succ]
  refine reg_take (i := 18) (v := ?_) rfl rfl (by kernel_rfl) (by kernel_rfl) (by kernel_rfl) (fun _ _ _ h => h) (by assumption) (by rfl) ?_ ?_
  rotate_left 1
  · (intro w hSw; (try dsimp only at hSw); go_simp; try with_reducible rfl)
  try simp only [List.setIfInBounds_toArray, List.set_cons_zero, List.set_cons_succ]
  refine reg_take (i := 19) (v := ?_) rfl rfl (by kernel_rfl) (by kernel_rfl) (by kernel_rfl) (fun _ _ _ h => h) (by assumption) (by rfl) ?_ ?_
  rotate_left 1
  · (intro w hSw; (try dsimp only at hSw); go_simp; try with_reducible rfl)
  try simp only [List.setIfInBounds_toArray, List.set_cons_zero, List.set_cons_succ]
  refine reg_take (i := 20) (v := ?_) rfl rfl (by kernel_rfl) (by kernel_rfl) (by kernel_rfl) (fun _ _ _ h => h) (by assumption) (by rfl) ?_ ?_
  rotate_left 1
  · (intro w hSw; (try dsimp only at hSw); go_simp; try with_reducible rfl)
  try simp only [List.setIfInBounds_toArray, List.set_cons_zero, List.set_cons_succ]
  refine reg_step (i := 16) (by kernel_rfl) rfl (by rfl) (fun KC hKC => ?_)
  go_simp
  refine (vredo_any L a _ H5.p.v ok).mono ?_; rintro e w9 ⟨v9, rfl, hwl, t9⟩
  have H9 := H5.below t9
  have B9 := B5.trans (t9.mono B5.size)
  obtain ⟨a9, c9, rfl, _, hw9⟩ := hwl.form
  clear H5 t9 hHeld hwl B5
  refine hKC.out _ _ ?_ (fun hHeld => ?_)
  · exact H9.tc
  clear hKC KC
  refine reg_step (i := 21) (by kernel_rfl) rfl (by rfl) (fun KC hKC => ?_)
  go_simp
  refine (rvredo_any R a _ H9.p.r).mono ?_; rintro e w10 ⟨v10, rfl, hwl, t10⟩
  have H10 := H9.below t10
  have hw910 := hw9.below t10
  have B10 := B9.trans (t10.mono B9.size)
  obtain ⟨a10, c10, rfl, _, hw10⟩ := hwl.form
  clear H9 t10 hHeld hwl hw9 B9
  refine hKC.out _ _ ?_ (fun hHeld => ?_)
  · exact H10.tc
  clear hKC KC
  refine reg_step (i := 22) (by kernel_rfl) rfl (by rfl) (fun KC hKC => ?_)
  go_simp
  refine (same_wr a9 a10 c9 c10 (wrL a) w10 (by have := wrL_le a; omega) hw910 hw10).mono ?_; rintro e w11 ⟨rfl, t11⟩
  have H11 := H10.below t11
  have B11 := B10.trans (t11.mono B10.size)
  clear H10 t11 hHeld hw910 hw10 B10
  refine hKC.out _ _ ?_ (fun hHeld => ?_)
  · exact H11.tc
  clear hKC KC
  refine reg_take (i := 23) (v := ?_) rfl rfl (by kernel_rfl) (by kernel_rfl) (by kernel_rfl) (fun _ _ _ h => h) (by assumption) (by rfl) ?_ ?_
  rotate_left 1
  · (intro w hSw; (try dsimp only at hSw); go_simp; try with_reducible rfl)
  try simp only [List.setIfInBounds_toArray, List.set_cons_zero, List.set_cons_succ]
  refine reg_take (i := 24) (v := ?_) rfl rfl (by kernel_rfl) (by kernel_rfl) (by kernel_rfl) (fun _ _ _ h => h) (by assumption) (by rfl) ?_ ?_
  rotate_left 1
  · (intro w hSw; (try dsimp only at hSw); go_simp; try with_reducible rfl)
  try simp only [List.setIfInBounds_toArray, List.set_cons_zero, List.set_cons_succ]
  refine wpAnyH_done (by kernel_rfl) ?_ _
  clear hHeld
  go_wp2_with fail
  go_ret
  exact ⟨rfl, B11⟩
set_option maxRecDepth 100000 in
set_option maxHeartbeats 1000000 in
/-- Two.Stores, where both stores are in one state. -/
theorem dstores_any (H : Dbl w t L R a b W) (hb : a.base = b.base) : Calls Try.prog 24 #[.pointer (some ⟨t, 0, none⟩)] W fun e W' => e = .returned (.bool true) ∧ Below W.heap.size W W' := by
  have hS := H.p.v.sa
  have hR := H.p.r.sa
  have c0 := H.cs
  have c2 := H.cd
  have ht := blk_lt H.tw
  rw [← hb] at hR
  clear H
  generalize L.s = s at *
  generalize L.l = l at *
  generalize R.d = d at *
  generalize R.s = r at *
  generalize a.base = base at *
  clear hb
  go_enter Try.func24, Try.ntmps24
  go_wp2_with fail
  go_loopw [3] (fun i wr => ∃ j : Nat, j ≤ 55 ∧ i = .int .i64 (j : Int) ∧ Below W.heap.size W wr) (fun i _ => 55 - (intOf i).toNat)
  case atStart => exact ⟨0, by omega, rfl, Below.refl _ _⟩
  case round =>
    obtain ⟨j, hj, rfl, B0⟩ := hrel
    have j0 : (0 : Int) ≤ (j : Int) := by omega
    go_wp2_with fail
    refine (rall_any _).mono ?_; rintro e w3 ⟨rfl, t3⟩
    have B3 := B0.trans (t3.mono B0.size)
    clear B0 t3
    by_cases hlt : j < 55
    · have l1 : (j : Int) < 55 := by omega
      have hk := (place_range (keyP (j : Int)).1 (keyP (j : Int)).2 (by rw [place_keyP j hlt]; omega)).2.2.2.1
      have hat := fun W => rat_any (j : Int) (by omega) (by omega) W
      rw [show atV (j : Int) = .agg #[.int .i64 (keyP j).1, .int .i64 (keyP j).2] from rfl] at hat
      have HAT := Lib.hid hat
      clear hat
      generalize (keyP j).1 = A at *
      generalize (keyP j).2 = C at *
      generalize (atK (j : Int)).isSome = D at *
      go_wp2_with fail
      refine (HAT.out _).mono ?_; rintro e w4 ⟨rfl, t4⟩
      have B4 := B3.trans (t4.mono B3.size)
      clear B3 t4 HAT
      go_upto_region 5 with fail
      have b5 : Below w4.heap.size w4 (w4.alloc (.cells #[.int .i64 A, .int .i64 C] 51)) := (Below.refl _ _).alloc (Nat.le_refl _) _
      have k0 : K2 w4.heap.size A C (w4.alloc (.cells #[.int .i64 A, .int .i64 C] 51)) := ⟨cell_of_row _ _ 0 _ _ _ (heap_alloc_new _ _), cell_of_row _ _ 1 _ _ _ (heap_alloc_new _ _)⟩
      have B5 := B4.trans (b5.mono B4.size)
      clear B4 b5
      generalize w4.alloc (.cells #[.int .i64 A, .int .i64 C] 51) = W5 at *
      generalize w4.heap.size = K at *
      have b6 : Below W5.heap.size W5 W5.drew := below_drewN (Below.refl _ W5) 1
      have B6 := B5.trans (b6.mono B5.size)
      have S0 : (fun W' => K2 K A C W' ∧ Below W.heap.size W W' ∧ W'.cell? ⟨t, 0, none⟩ = some (.pointer (some ⟨s, 0, none⟩)) ∧ W'.cell? ⟨t, 2, none⟩ = some (.pointer (some ⟨d, 0, none⟩))) W5.drew := ⟨cells_two k0 b6, B6, (B6.cell ht).trans c0, (B6.cell ht).trans c2⟩
      clear b6 k0 B6 B5
      refine wp_region_held_drew (S := fun W' => K2 K A C W' ∧ Below W.heap.size W W' ∧ W'.cell? ⟨t, 0, none⟩ = some (.pointer (some ⟨s, 0, none⟩)) ∧ W'.cell? ⟨t, 2, none⟩ = some (.pointer (some ⟨d, 0, none⟩))) (by kernel_rfl) S0 (fun hHeld => ?_)
      clear S0
      refine reg_take (i := 0) (v := ?_) rfl rfl (by kernel_rfl) (by kernel_rfl) (by kernel_rfl) (fun _ _ _ h => h) (by assumption) (by rfl) ?_ ?_
      rotate_left 1
      · (intro w hSw; (try dsimp only at hSw); go_simp; try with_reducible rfl)
      try simp only [List.setIfInBounds_toArray, List.set_cons_zero, List.set_cons_succ]
      refine reg_take (i := 1) (v := ?_) rfl rfl (by kernel_rfl) (by kernel_rfl) (by kernel_rfl) (fun _ _ _ h => h) (by assumption) (by rfl) ?_ ?_
      rotate_left 1
      · (intro w hSw; (try dsimp only at hSw); go_simp; try with_reducible rfl)
      try simp only [List.setIfInBounds_toArray, List.set_cons_zero, List.set_cons_succ]
      refine reg_take (i := 2) (v := ?_) rfl rfl (by kernel_rfl) (by kernel_rfl) (by kernel_rfl) (fun _ _ _ h => h) (by assumption) (by rfl) ?_ ?_
      rotate_left 1
      · (intro w hSw; (try dsimp only at hSw); go_simp; try with_reducible rfl)
      try simp only [List.setIfInBounds_toArray, List.set_cons_zero, List.set_cons_succ]
      refine reg_take (i := 3) (v := ?_) rfl rfl (by kernel_rfl) (by kernel_rfl) (by kernel_rfl) (fun _ _ _ h => h) (by assumption) (by rfl) ?_ ?_
      rotate_left 1
      · (intro w hSw; (try dsimp only at hSw); go_simp; try with_reducible rfl)
      try simp only [List.setIfInBounds_toArray, List.set_cons_zero, List.set_cons_succ]
      refine reg_take (i := 4) (v := ?_) rfl rfl (by kernel_rfl) (by kernel_rfl) (by kernel_rfl) (fun _ _ _ h => h) (by assumption) (by rfl) ?_ ?_
      rotate_left 1
      · (intro w hSw; (try dsimp only at hSw); go_simp; try with_reducible rfl)
      try simp only [List.setIfInBounds_toArray, List.set_cons_zero, List.set_cons_succ]
      refine reg_take (i := 6) (v := ?_) rfl rfl (by kernel_rfl) (by kernel_rfl) (by kernel_rfl) (fun _ _ _ h => h) (by assumption) (by rfl) ?_ ?_
      rotate_left 1
      · (intro w hSw; (try dsimp only at hSw); go_simp; try with_reducible rfl)
      try simp only [List.setIfInBounds_toArray, List.set_cons_zero, List.set_cons_succ]
      refine reg_take (i := 7) (v := ?_) rfl rfl (by kernel_rfl) (by kernel_rfl) (by kernel_rfl) (fun _ _ _ h => h) (by assumption) (by rfl) ?_ ?_
      rotate_left 1
      · (intro w hSw; (try dsimp only at hSw); go_simp; try with_reducible rfl)
      try simp only [List.setIfInBounds_toArray, List.set_cons_zero, List.set_cons_succ]
      refine reg_take (i := 8) (v := ?_) rfl rfl (by kernel_rfl) (by kernel_rfl) (by kernel_rfl) (fun _ _ _ h => h) (by assumption) (by rfl) ?_ ?_
      rotate_left 1
      · (intro w hSw; (try dsimp only at hSw); go_simp; try with_reducible rfl)
      try simp only [List.setIfInBounds_toArray, List.set_cons_zero, List.set_cons_succ]
      refine reg_take (i := 9) (v := ?_) rfl rfl (by kernel_rfl) (by kernel_rfl) (by kernel_rfl) (fun _ _ _ h => h) (by assumption) (by rfl) ?_ ?_
      rotate_left 1
      · (intro w hSw; (try dsimp only at hSw); go_simp; try with_reducible rfl)
      try simp only [List.setIfInBounds_toArray, List.set_cons_zero, List.set_cons_succ]
      refine reg_take (i := 10) (v := ?_) rfl rfl (by kernel_rfl) (by kernel_rfl) (by kernel_rfl) (fun _ _ _ h => h) (by assumption) (by rfl) ?_ ?_
      rotate_left 1
      · (intro w hSw; (try dsimp only at hSw); go_simp; try with_reducible rfl)
      try simp only [List.setIfInBounds_toArray, List.set_cons_zero, List.set_cons_succ]
      refine reg_step (i := 5) (by kernel_rfl) rfl (by rfl) (fun KC hKC => ?_)
      go_simp
      refine (sget_any s l _ A C _ (hS.keep (Turn.of_below hHeld.2.1 (fun _ => False)) id id)).mono ?_; rintro e w7 ⟨rfl, t7⟩
      have s7 : (fun W' => K2 K A C W' ∧ Below W.heap.size W W' ∧ W'.cell? ⟨t, 0, none⟩ = some (.pointer (some ⟨s, 0, none⟩)) ∧ W'.cell? ⟨t, 2, none⟩ = some (.pointer (some ⟨d, 0, none⟩))) w7 := ⟨cells_two hHeld.1 t7, hHeld.2.1.trans (t7.mono hHeld.2.1.size), (t7.cell (cell_block_lt hHeld.2.2.1)).trans hHeld.2.2.1, (t7.cell (cell_block_lt hHeld.2.2.2)).trans hHeld.2.2.2⟩
      clear t7 hHeld
      refine hKC.out _ _ ?_ (fun hHeld => ?_)
      · exact s7
      clear hKC KC s7
      refine reg_step (i := 11) (by kernel_rfl) rfl (by rfl) (fun KC hKC => ?_)
      go_simp
      refine (rget_any d r _ A C (by omega) _ (hR.keep (Turn.of_below hHeld.2.1 (fun _ => False)) id id)).mono ?_; rintro e w8 ⟨rfl, t8⟩
      have s8 : (fun W' => K2 K A C W' ∧ Below W.heap.size W W' ∧ W'.cell? ⟨t, 0, none⟩ = some (.pointer (some ⟨s, 0, none⟩)) ∧ W'.cell? ⟨t, 2, none⟩ = some (.pointer (some ⟨d, 0, none⟩))) w8 := ⟨cells_two hHeld.1 t8, hHeld.2.1.trans (t8.mono hHeld.2.1.size), (t8.cell (cell_block_lt hHeld.2.2.1)).trans hHeld.2.2.1, (t8.cell (cell_block_lt hHeld.2.2.2)).trans hHeld.2.2.2⟩
      clear t8 hHeld
      refine hKC.out _ _ ?_ (fun hHeld => ?_)
      · exact s8
      clear hKC KC
      have hne := neqV_run (storeLook base A C)
      refine reg_take (i := 12) (v := .bool false) rfl rfl (by kernel_rfl) (by kernel_rfl) (by kernel_rfl) (fun _ _ _ h => h) (by assumption) (by rfl) (fun w hS => run_neq_op rfl rfl (by kernel_rfl) (hne w)) ?_
      try simp only [List.setIfInBounds_toArray, List.set_cons_zero, List.set_cons_succ]
      refine wpAnyH_done (by kernel_rfl) ?_ _
      have B8 := s8.2.1
      clear hHeld s8 hne
      go_wp2_with fail
      exact ⟨⟨j + 1, by omega, by go_num, B8⟩, by simp [intOf]; omega⟩
    · have l1 : ¬ (j : Int) < 55 := by omega
      go_wp2_with fail
      go_ret
      exact ⟨rfl, B3⟩
end
set_option maxRecDepth 100000 in
set_option maxHeartbeats 4000000 in
/-- Two.Look: new views of the stores. -/
theorem dlook_any (w : World) (t s l d r : Nat) (v0 q0 : Value) (base base2 : Nat → Val) (W : World) (hS : StoreAt W s l base) (hR : RStoreAt W d r base2) (hT : blk W t = some (.cells #[.pointer (some ⟨s, 0, none⟩), v0, .pointer (some ⟨d, 0, none⟩), q0] 35 (0, 0)))
    (hb : Below w.heap.size w W) (tz : w.heap.size ≤ t) (lo : w.heap.size ≤ l ∧ w.heap.size ≤ r) (hsl : s ≠ l) (hdl : d ≠ l) (hrs : r ≠ s) :
    Calls Try.prog 41 #[.pointer (some ⟨t, 0, none⟩)] W fun e W' => e = .returned (.tuple #[]) ∧ ∃ L R, L.s = s ∧ L.l = l ∧ R.d = d ∧ R.s = r ∧ Dbl w t L R (VSt.fresh base) (VSt.fresh base2) W' ∧ Turn (· = t) W W' := by
  have c0 := cell_of_row W t 0 _ _ _ hT
  have c2 := cell_of_row W t 2 _ _ _ hT
  simp at c0 c2
  have lt := blk_lt hT
  have hTd : blk W.drew t = _ := (blk_drew W t).trans hT
  have hSd : StoreAt W.drew s l base := hS.keep (S := fun _ => False) (Turn.refl _ _).drew (fun q => q) (fun q => q)
  have hRd : RStoreAt W.drew d r base2 := hR.keep (S := fun _ => False) (Turn.refl _ _).drew (fun q => q) (fun q => q)
  have ltd : t < W.drew.heap.size := lt
  have hlr : l ≠ r := by
    obtain ⟨_, q1, _⟩ := hS.cl
    obtain ⟨_, _, _, q2, _⟩ := hR.cm
    exact cells_ne_map q1 q2
  have hll : l < W.drew.heap.size := by obtain ⟨_, q1, _⟩ := hSd.cl; exact lt_of_heap q1
  have hsd : s < W.drew.heap.size := hSd.lts
  have hdd : d < W.drew.heap.size := lt_of_heap hRd.cd
  have hrd : r < W.drew.heap.size := by obtain ⟨_, _, _, q2, _⟩ := hRd.cm; exact lt_of_heap q2
  have htl : t ≠ l := by
    obtain ⟨_, q1, _⟩ := hS.cl
    intro e
    subst e
    unfold blk at hT
    rw [q1] at hT
    injection hT with hT
    injection hT with _ hT
    cases hT
  have hts : t ≠ s := by
    obtain ⟨_, _, q1⟩ := hS.cs
    intro e
    subst e
    unfold blk at hT
    rw [q1] at hT
    injection hT with hT
    injection hT with _ hT
    cases hT
  have htd : t ≠ d := by
    have q1 := hR.cd
    intro e
    subst e
    rw [q1] at hT
    injection hT with hT
    injection hT with _ hT
    cases hT
  have htr : t ≠ r := by
    obtain ⟨_, _, _, q2, _⟩ := hR.cm
    exact cells_ne_map hT q2
  go_enter Try.func41, Try.ntmps41
  go_wp2_with fail
  go_region_with (first
    | (go_at_call 60; refine (look_any s l base _ hSd).mono ?_; rintro e w1 ⟨L, rfl, rfl, rfl, hv1, t1, gv, gr, gm⟩; have hT1 := blk_below t1 hTd ltd; have lt1 := blk_lt hT1; have hR1 := hRd.below t1; have d0 := cell_of_row w1 t 0 _ _ _ hT1; have d1 := cell_of_row w1 t 1 _ _ _ hT1; have d2 := cell_of_row w1 t 2 _ _ _ hT1; have d3 := cell_of_row w1 t 3 _ _ _ hT1; simp at d0 d1 d2 d3)
    | (go_at_call 67; refine (rnewview d r base2 _ hR1).mono ?_; rintro e w2 ⟨R, rfl, rfl, rfl, hq, t2, gq, qr, qm⟩; have hT2 := blk_below t2 hT1 lt1; have hv2 := hv1.below t2; have lt2 := blk_lt hT2; have e0 := cell_of_row w2 t 0 _ _ _ hT2; have e1 := cell_of_row w2 t 1 _ _ _ hT2; have e2 := cell_of_row w2 t 2 _ _ _ hT2; have e3 := cell_of_row w2 t 3 _ _ _ hT2; simp at e0 e1 e2 e3; have f2 := frozen_blk hT2))
  all_goals
    go_wp2_with fail
    go_end0
    have b1 := blk_setCell_same hT2 1 (Value.pointer (some ⟨L.v, 0, none⟩))
    have b2 := blk_setCell_same b1 3 (Value.pointer (some ⟨R.q, 0, none⟩))
    have z1 := t1.size
    have z2 := t2.size
    have z0 : W.drew.heap.size = W.heap.size := rfl
    have z3 := hb.size
    have tt : Turn (· = t) w2 ((w2.setCell ⟨t, 1, none⟩ (Value.pointer (some ⟨L.v, 0, none⟩))).setCell ⟨t, 3, none⟩ (Value.pointer (some ⟨R.q, 0, none⟩))) :=
      ((Turn.refl (· = t) w2).setCell (p := ⟨t, 1, none⟩) (Or.inl (show t = t from rfl)) _).setCell (p := ⟨t, 3, none⟩) (Or.inl (show t = t from rfl)) _
    have tw : Turn (· = t) W w2 := ((Turn.refl _ _).drew.trans (Turn.of_below t1 _)).trans (Turn.of_below t2 _)
    have m1 := hv1.lts
    refine ⟨rfl, L, R, rfl, rfl, rfl, rfl, ⟨⟨hv2.keep tt ?_, hq.keep tt ?_, hb.trans ((tw.trans tt).below (B := w.heap.size) hb.size (fun i (e : i = t) => by omega))⟩, ?_, b2, tz⟩, tw.trans tt⟩
    · rintro i rfl
      exact ⟨by omega, hts, htl, by omega, by omega⟩
    · rintro i rfl
      exact ⟨by omega, htd, htr, by omega, by omega⟩
    · refine ⟨fun i hi => ?_, fun i hi => ?_, ?_, hsl, ?_, ?_⟩ <;> omega
/-- A write kept in a block of the call's own. -/
abbrev WA (K : Nat) (A C : Int) (X : Val) (W : World) : Prop := W.cell? ⟨K, 0, none⟩ = some (.int .i64 A) ∧ W.cell? ⟨K, 1, none⟩ = some (.int .i64 C) ∧ blk W K = some (.cells (wcells A C X) 73 (0, 0))
theorem wa_of {W : World} {K : Nat} {A C : Int} {X : Val} (h : blk W K = some (.cells (wcells A C X) 73 (0, 0))) : WA K A C X W := ⟨cell_of_row W K 0 _ _ _ h, cell_of_row W K 1 _ _ _ h, h⟩
theorem wa_turn {S : Nat → Prop} {W W' : World} {K : Nat} {A C : Int} {X : Val} (h : WA K A C X W) (hT : Turn S W W') (hS : ¬ S K) : WA K A C X W' := wa_of (blk_of_turn hT h.2.2 hS)
theorem Dbl.store {w W W' : World} {t : Nat} {L : Lay} {R : RLay} {a b : VSt} {base : Nat → Val} (h : Dbl w t L R a b W) (hS : StoreAt W' L.s L.l base) (T : Turn (· = L.l) W W') : Dbl w t L R { a with base := base } b W' :=
  ⟨h.p.store h.f base hS T, h.f, blk_of_turn T h.tw h.far.1, h.tz⟩
theorem Dbl.rstore {w W W' : World} {t : Nat} {L : Lay} {R : RLay} {a b : VSt} {base : Nat → Val} (h : Dbl w t L R a b W) (hS : RStoreAt W' R.d R.s base) (T : Turn (· = R.s) W W') : Dbl w t L R a { b with base := base } W' :=
  ⟨h.p.rstore h.f base hS T, h.f, blk_of_turn T h.tw h.far.2.2.2.1, h.tz⟩
set_option maxRecDepth 100000 in
set_option maxHeartbeats 4000000 in
/-- Two.Put: what was written goes into the stores; new views. -/
theorem dput_any (w : World) (t : Nat) (L : Lay) (R : RLay) (a : VSt) (W : World) (H : Dbl w t L R a a W) (ok : VOk a) :
    Calls Try.prog 16 #[.pointer (some ⟨t, 0, none⟩)] W fun e W' => e = .returned (.tuple #[]) ∧ ∃ L' R', Dbl w t L' R' (VSt.fresh (putAll a.base (wrL a))) (VSt.fresh (putAll a.base (wrL a))) W' ∧ Turn (fun i => i = t ∨ i = L.l ∨ i = R.s) W W' := by
  have F := H.f
  have c1 := H.cv
  have hlen := wrL_le a
  have HPA := Lib.hid (putAll_step a.base (wrL a))
  have HKY := Lib.hid (wrL_key a)
  go_enter Try.func16, Try.ntmps16
  go_wp2_with fail
  refine (vredo_any L a _ H.p.v ok).mono ?_; rintro e w2 ⟨v2, rfl, hwl, t2⟩
  have H5 := H.below t2
  have T5 : Turn (fun i => i = t ∨ i = L.l ∨ i = R.s) W w2 := Turn.of_below t2 _
  have hz5 := t2.size
  have hlt := H.p.v.lts
  have hrt := H.p.r.lts
  obtain ⟨B, hB⟩ : ∃ B, B = W.heap.size := ⟨_, rfl⟩
  rw [← hB] at hwl hz5 hlt hrt
  clear hB
  obtain ⟨a2, c2, rfl, _, _⟩ := hwl.form
  clear t2 c1 H
  go_wp2_with fail
  go_loopw [12] (fun i wr => ∃ m : Nat, m ≤ (wrL a).length ∧ i = .int .i64 (m : Int) ∧ Dbl w t L R { a with base := putAll a.base ((wrL a).take m) } a wr ∧ WL B wr (.slice a2 (wrL a).length c2) (wrL a) ∧ Turn (fun i => i = t ∨ i = L.l ∨ i = R.s) W wr ∧ B ≤ wr.heap.size) (fun i _ => (wrL a).length - (intOf i).toNat)
  case atStart => exact ⟨0, by omega, rfl, H5, hwl, T5, hz5⟩
  case round =>
    clear H5 hwl T5 hz5
    obtain ⟨m, hm, rfl, H2, hwl, T2, hz2⟩ := hrel
    have m0 : (0 : Int) ≤ (m : Int) := by omega
    by_cases hml : m < (wrL a).length
    · have l2 : (m : Int) < ((wrL a).length : Int) := by omega
      obtain ⟨g, cur, rfl, hg, y1, y2⟩ := hwl.get m hml
      have hst := HPA.out m hml
      have hky := HKY.out m hml
      have HST := Lib.hid hst
      clear hst
      generalize (wrL a)[m].1.1 = A at *
      generalize (wrL a)[m].1.2 = C at *
      generalize (wrL a)[m].2 = X at *
      have hlw := run_loadW_mid wr g (m * 19) cur A C X _ _ y1 y2
      have a1 := add_at_g g (m * 19)
      have hsw : (storeW (.pointer (some ⟨wr.heap.size, 0, none⟩)) (.agg (wcells A C X))).run Try.prog (wr.alloc (Obj.cells zW 73)) = .ok .skip (wr.alloc (Obj.cells (wcells A C X) 73)) := by
        rw [run_storeW _ _ _ _ _ _ _ (blk_alloc_at wr _ _ rfl) rfl, setRow_alloc_at _ _ _ _ _ rfl]
      go_upto_region 3 with fail
      have bA : Below wr.heap.size wr (wr.alloc (.cells (wcells A C X) 73)) := (Below.refl _ _).alloc (Nat.le_refl _) _
      have kb : blk (wr.alloc (.cells (wcells A C X) 73)) wr.heap.size = some (.cells (wcells A C X) 73 (0, 0)) := heap_alloc_new _ _
      have H3 := H2.below bA
      have hwl3 := hwl.below bA
      have T3 := T2.trans (Turn.of_below bA _)
      have hz3 : B ≤ (wr.alloc (.cells (wcells A C X) 73)).heap.size := by have := bA.size; omega
      clear bA H2 hwl hlw hsw a1 y1 T2 hz2
      generalize wr.alloc (.cells (wcells A C X) 73) = W3 at *
      generalize wr.heap.size = K at *
      have b4 : Below W3.heap.size W3 W3.drew := below_drewN (Below.refl _ W3) 1
      have H4 := H3.below b4
      have hwl4 := hwl3.below b4
      have T4 := T3.trans (Turn.of_below b4 _)
      have kb4 := wa_of ((b4.block K (lt_of_heap kb)).trans kb)
      have hz4 : B ≤ W3.drew.heap.size := hz3
      clear kb b4 H3 hwl3 T3 hz3
      refine wp_region_held_drew (S := fun W => WA K A C X W ∧ TC t L.s L.v R.d R.q W) (by kernel_rfl) ⟨kb4, H4.tc⟩ (fun hHeld => ?_)
      clear kb4
      refine reg_take (i := 0) (v := ?_) rfl rfl (by kernel_rfl) (by kernel_rfl) (by kernel_rfl) (fun _ _ _ h => h) (by assumption) (by rfl) ?_ ?_
      rotate_left 1
      · (intro w hSw; (try dsimp only at hSw); go_simp; try with_reducible rfl)
      try simp only [List.setIfInBounds_toArray, List.set_cons_zero, List.set_cons_succ]
      refine reg_take (i := 1) (v := ?_) rfl rfl (by kernel_rfl) (by kernel_rfl) (by kernel_rfl) (fun _ _ _ h => h) (by assumption) (by rfl) ?_ ?_
      rotate_left 1
      · (intro w hSw; (try dsimp only at hSw); go_simp; try with_reducible rfl)
      try simp only [List.setIfInBounds_toArray, List.set_cons_zero, List.set_cons_succ]
      refine reg_take (i := 2) (v := ?_) rfl rfl (by kernel_rfl) (by kernel_rfl) (by kernel_rfl) (fun _ _ _ h => h) (by assumption) (by rfl) ?_ ?_
      rotate_left 1
      · (intro w hSw; (try dsimp only at hSw); go_simp; try with_reducible rfl)
      try simp only [List.setIfInBounds_toArray, List.set_cons_zero, List.set_cons_succ]
      refine reg_take (i := 3) (v := ?_) rfl rfl (by kernel_rfl) (by kernel_rfl) (by kernel_rfl) (fun _ _ _ h => h) (by assumption) (by rfl) ?_ ?_
      rotate_left 1
      · (intro w hSw; (try dsimp only at hSw); go_simp; try with_reducible rfl)
      try simp only [List.setIfInBounds_toArray, List.set_cons_zero, List.set_cons_succ]
      refine reg_take (i := 4) (v := ?_) rfl rfl (by kernel_rfl) (by kernel_rfl) (by kernel_rfl) (fun _ _ _ h => h) (by assumption) (by rfl) ?_ ?_
      rotate_left 1
      · (intro w hSw; (try dsimp only at hSw); go_simp; try with_reducible rfl)
      try simp only [List.setIfInBounds_toArray, List.set_cons_zero, List.set_cons_succ]
      refine reg_take (i := 5) (v := ?_) rfl rfl (by kernel_rfl) (by kernel_rfl) (by kernel_rfl) (fun _ _ _ h => h) (by assumption) (by rfl) ?_ ?_
      rotate_left 1
      · (intro w hSw; (try dsimp only at hSw); go_simp; try with_reducible rfl)
      try simp only [List.setIfInBounds_toArray, List.set_cons_zero, List.set_cons_succ]
      refine reg_take (i := 6) (v := ?_) rfl rfl (by kernel_rfl) (by kernel_rfl) (by kernel_rfl) (fun _ _ _ h => h) (by assumption) (by rfl) ?_ ?_
      rotate_left 1
      · (intro w hSw; (try dsimp only at hSw); go_simp; try with_reducible rfl)
      try simp only [List.setIfInBounds_toArray, List.set_cons_zero, List.set_cons_succ]
      refine reg_take (i := 7) (v := (.agg X.cells)) rfl rfl (by kernel_rfl) (by kernel_rfl) (by kernel_rfl) (fun _ _ _ h => h) (by assumption) (by rfl) (fun W hW => run_loadV_mid W K 2 _ X _ _ hW.1.2.2 (wcells_ext A C X)) ?_
      try simp only [List.setIfInBounds_toArray, List.set_cons_zero, List.set_cons_succ]
      refine reg_step (i := 8) (by kernel_rfl) rfl (by rfl) (fun KC hKC => ?_)
      go_simp
      refine (sput_any L.s L.l _ A C X F.sl _ H4.p.v.sa).mono ?_; rintro e w4 ⟨rfl, hS4, T5⟩
      have H5 := H4.store hS4 T5
      have kK := wa_turn hHeld.1 T5 (show ¬ K = L.l from by have := H4.p.far hHeld.1.2.2 (by decide); omega)
      have hwl5 := hwl4.turn T5 (fun i hi (e : i = L.l) => by omega)
      have T6 := T4.trans (T5.mono fun i _ (e : i = L.l) => by first | exact Or.inr (Or.inl e) | exact Or.inr (Or.inr e))
      have hz5 := T5.size
      clear H4 hwl4 T4 hS4 T5 hHeld
      refine hKC.out _ _ ?_ (fun hHeld => ?_)
      · exact ⟨kK, H5.tc⟩
      clear hKC KC kK
      refine wpAnyH_done (by kernel_rfl) ?_ _
      clear hHeld
      go_wp2_with fail
      exact ⟨⟨m + 1, by omega, by go_num, by rw [HST.out]; exact H5, hwl5, T6, by omega⟩, by simp [intOf]; omega⟩
    · have l2 : ¬ (m : Int) < ((wrL a).length : Int) := by omega
      obtain rfl : m = (wrL a).length := by omega
      rw [List.take_length] at H2
      clear hwl
      have c3 := H2.cq
      go_wp2_with fail
      refine (rvredo_any R a _ H2.p.r).mono ?_; rintro e w2 ⟨v2, rfl, hwl, t2⟩
      have H5 := H2.below t2
      have T5 := T2.trans (Turn.of_below t2 _)
      have hz5 := t2.size
      have hlt2 := H2.p.v.lts
      have hrt2 := H2.p.r.lts
      obtain ⟨B5, hB5⟩ : ∃ B5, B5 = wr.heap.size := ⟨_, rfl⟩
      rw [← hB5] at hwl hz5 hlt2 hrt2
      clear hB5
      obtain ⟨a3, c5, rfl, _, _⟩ := hwl.form
      clear t2 c3 H2 T2 hz2
      go_wp2_with fail
      go_loopw [32] (fun i wr => ∃ m : Nat, m ≤ (wrL a).length ∧ i = .int .i64 (m : Int) ∧ Dbl w t L R { a with base := putAll a.base (wrL a) } { a with base := putAll a.base ((wrL a).take m) } wr ∧ WL B5 wr (.slice a3 (wrL a).length c5) (wrL a) ∧ Turn (fun i => i = t ∨ i = L.l ∨ i = R.s) W wr ∧ B5 ≤ wr.heap.size) (fun i _ => (wrL a).length - (intOf i).toNat)
      case atStart => exact ⟨0, by omega, rfl, H5, hwl, T5, hz5⟩
      case round =>
        clear H5 hwl T5 hz5
        obtain ⟨m, hm, rfl, H2, hwl, T2, hz2⟩ := hrel
        have m0 : (0 : Int) ≤ (m : Int) := by omega
        by_cases hml : m < (wrL a).length
        · have l2 : (m : Int) < ((wrL a).length : Int) := by omega
          obtain ⟨g, cur, rfl, hg, y1, y2⟩ := hwl.get m hml
          have hst := HPA.out m hml
          have hky := HKY.out m hml
          have HST := Lib.hid hst
          clear hst
          generalize (wrL a)[m].1.1 = A at *
          generalize (wrL a)[m].1.2 = C at *
          generalize (wrL a)[m].2 = X at *
          have hlw := run_loadW_mid wr g (m * 19) cur A C X _ _ y1 y2
          have a1 := add_at_g g (m * 19)
          have hsw : (storeW (.pointer (some ⟨wr.heap.size, 0, none⟩)) (.agg (wcells A C X))).run Try.prog (wr.alloc (Obj.cells zW 73)) = .ok .skip (wr.alloc (Obj.cells (wcells A C X) 73)) := by
            rw [run_storeW _ _ _ _ _ _ _ (blk_alloc_at wr _ _ rfl) rfl, setRow_alloc_at _ _ _ _ _ rfl]
          go_upto_region 8 with fail
          have bA : Below wr.heap.size wr (wr.alloc (.cells (wcells A C X) 73)) := (Below.refl _ _).alloc (Nat.le_refl _) _
          have kb : blk (wr.alloc (.cells (wcells A C X) 73)) wr.heap.size = some (.cells (wcells A C X) 73 (0, 0)) := heap_alloc_new _ _
          have H3 := H2.below bA
          have hwl3 := hwl.below bA
          have T3 := T2.trans (Turn.of_below bA _)
          have hz3 : B5 ≤ (wr.alloc (.cells (wcells A C X) 73)).heap.size := by have := bA.size; omega
          clear bA H2 hwl hlw hsw a1 y1 T2 hz2
          generalize wr.alloc (.cells (wcells A C X) 73) = W3 at *
          generalize wr.heap.size = K at *
          have b4 : Below W3.heap.size W3 W3.drew := below_drewN (Below.refl _ W3) 1
          have H4 := H3.below b4
          have hwl4 := hwl3.below b4
          have T4 := T3.trans (Turn.of_below b4 _)
          have kb4 := wa_of ((b4.block K (lt_of_heap kb)).trans kb)
          have hz4 : B5 ≤ W3.drew.heap.size := hz3
          clear kb b4 H3 hwl3 T3 hz3
          refine wp_region_held_drew (S := fun W => WA K A C X W ∧ TC t L.s L.v R.d R.q W) (by kernel_rfl) ⟨kb4, H4.tc⟩ (fun hHeld => ?_)
          clear kb4
          refine reg_take (i := 0) (v := ?_) rfl rfl (by kernel_rfl) (by kernel_rfl) (by kernel_rfl) (fun _ _ _ h => h) (by assumption) (by rfl) ?_ ?_
          rotate_left 1
          · (intro w hSw; (try dsimp only at hSw); go_simp; try with_reducible rfl)
          try simp only [List.setIfInBounds_toArray, List.set_cons_zero, List.set_cons_succ]
          refine reg_take (i := 1) (v := ?_) rfl rfl (by kernel_rfl) (by kernel_rfl) (by kernel_rfl) (fun _ _ _ h => h) (by assumption) (by rfl) ?_ ?_
          rotate_left 1
          · (intro w hSw; (try dsimp only at hSw); go_simp; try with_reducible rfl)
          try simp only [List.setIfInBounds_toArray, List.set_cons_zero, List.set_cons_succ]
          refine reg_take (i := 2) (v := ?_) rfl rfl (by kernel_rfl) (by kernel_rfl) (by kernel_rfl) (fun _ _ _ h => h) (by assumption) (by rfl) ?_ ?_
          rotate_left 1
          · (intro w hSw; (try dsimp only at hSw); go_simp; try with_reducible rfl)
          try simp only [List.setIfInBounds_toArray, List.set_cons_zero, List.set_cons_succ]
          refine reg_take (i := 3) (v := ?_) rfl rfl (by kernel_rfl) (by kernel_rfl) (by kernel_rfl) (fun _ _ _ h => h) (by assumption) (by rfl) ?_ ?_
          rotate_left 1
          · (intro w hSw; (try dsimp only at hSw); go_simp; try with_reducible rfl)
          try simp only [List.setIfInBounds_toArray, List.set_cons_zero, List.set_cons_succ]
          refine reg_take (i := 4) (v := ?_) rfl rfl (by kernel_rfl) (by kernel_rfl) (by kernel_rfl) (fun _ _ _ h => h) (by assumption) (by rfl) ?_ ?_
          rotate_left 1
          · (intro w hSw; (try dsimp only at hSw); go_simp; try with_reducible rfl)
          try simp only [List.setIfInBounds_toArray, List.set_cons_zero, List.set_cons_succ]
          refine reg_take (i := 5) (v := ?_) rfl rfl (by kernel_rfl) (by kernel_rfl) (by kernel_rfl) (fun _ _ _ h => h) (by assumption) (by rfl) ?_ ?_
          rotate_left 1
          · (intro w hSw; (try dsimp only at hSw); go_simp; try with_reducible rfl)
          try simp only [List.setIfInBounds_toArray, List.set_cons_zero, List.set_cons_succ]
          refine reg_take (i := 6) (v := ?_) rfl rfl (by kernel_rfl) (by kernel_rfl) (by kernel_rfl) (fun _ _ _ h => h) (by assumption) (by rfl) ?_ ?_
          rotate_left 1
          · (intro w hSw; (try dsimp only at hSw); go_simp; try with_reducible rfl)
          try simp only [List.setIfInBounds_toArray, List.set_cons_zero, List.set_cons_succ]
          refine reg_take (i := 7) (v := (.agg X.cells)) rfl rfl (by kernel_rfl) (by kernel_rfl) (by kernel_rfl) (fun _ _ _ h => h) (by assumption) (by rfl) (fun W hW => run_loadV_mid W K 2 _ X _ _ hW.1.2.2 (wcells_ext A C X)) ?_
          try simp only [List.setIfInBounds_toArray, List.set_cons_zero, List.set_cons_succ]
          refine reg_step (i := 8) (by kernel_rfl) rfl (by rfl) (fun KC hKC => ?_)
          go_simp
          refine (rput_any R.d R.s _ A C X hky _ H4.p.r.sa).mono ?_; rintro e w4 ⟨rfl, hS4, T5⟩
          have H5 := H4.rstore hS4 T5
          have kK := wa_turn hHeld.1 T5 (show ¬ K = R.s from by have := H4.p.far hHeld.1.2.2 (by decide); omega)
          have hwl5 := hwl4.turn T5 (fun i hi (e : i = R.s) => by omega)
          have T6 := T4.trans (T5.mono fun i _ (e : i = R.s) => by first | exact Or.inr (Or.inl e) | exact Or.inr (Or.inr e))
          have hz5 := T5.size
          clear H4 hwl4 T4 hS4 T5 hHeld
          refine hKC.out _ _ ?_ (fun hHeld => ?_)
          · exact ⟨kK, H5.tc⟩
          clear hKC KC kK
          refine wpAnyH_done (by kernel_rfl) ?_ _
          clear hHeld
          go_wp2_with fail
          exact ⟨⟨m + 1, by omega, by go_num, by rw [HST.out]; exact H5, hwl5, T6, by omega⟩, by simp [intOf]; omega⟩
        · have l2 : ¬ (m : Int) < ((wrL a).length : Int) := by omega
          obtain rfl : m = (wrL a).length := by omega
          rw [List.take_length] at H2
          clear hwl HPA HKY
          go_wp2_with fail
          have q1 := F.lo L.l (Or.inl rfl)
          have q2 := F.ro R.s (Or.inl rfl)
          refine (dlook_any w t L.s L.l R.d R.s _ _ _ _ _ H2.p.v.sa H2.p.r.sa H2.tw H2.p.b H2.tz ⟨q1.1, q2.1⟩ F.sl (by omega) (by omega)).mono ?_; rintro e w6 ⟨rfl, L', R', e1, e2, e3, e4, H6, T6⟩
          go_wp2_with fail
          go_end0
          exact ⟨rfl, L', R', H6, T2.trans (T6.mono fun i _ (e : i = t) => Or.inl e)⟩
end Go.Proofs.Ytfcgkjbifnhjjaa.St

namespace Go.Proofs.Ytfcgkjbifnhjjaa.St
open Go.RowKit
set_option linter.unusedVariables false
attribute [local go_sem] blk_alloc_at blk_alloc_past blk_drew blk_drewN blk_setB_same blk_setB_other blk_setRow_other setRow_alloc_at setRow_alloc_past setRow_drewN setRow_drew setB_size setB_cell setB_frozen setB_alloc_past setB_drewN setB_drew run_loadV loadOr_cells run_storeV storeOr_cells cells_size ones_cells
attribute [local go_sem ↓] execOp_loadV execOp_storeV execOp_loadW execOp_storeW
attribute [local irreducible] Int.lt Int.le
/-- What the loop of New keeps. -/
structure NB (w : World) (t s l d r : Nat) (base : Nat → Val) (W : World) : Prop where
  sa : StoreAt W s l base
  ra : RStoreAt W d r base
  tw : blk W t = some (.cells #[.pointer (some ⟨s, 0, none⟩), .pointer none, .pointer (some ⟨d, 0, none⟩), .pointer none] 35 (0, 0))
  b : Below w.heap.size w W
  z : ∀ p, (base p).s.size ≤ 200
section
variable {w : World} {t s l d r : Nat} {base : Nat → Val} {W W' : World}
theorem NB.below (h : NB w t s l d r base W) (hb : Below W.heap.size W W') : NB w t s l d r base W' :=
  ⟨h.sa.keep (Turn.of_below hb (fun _ => False)) id id, h.ra.below hb, blk_below hb h.tw (blk_lt h.tw), h.b.trans (hb.mono h.b.size), h.z⟩
theorem NB.c0 (h : NB w t s l d r base W) : W.cell? ⟨t, 0, none⟩ = some (.pointer (some ⟨s, 0, none⟩)) := cell_of_row W t 0 _ _ _ h.tw
theorem NB.c2 (h : NB w t s l d r base W) : W.cell? ⟨t, 2, none⟩ = some (.pointer (some ⟨d, 0, none⟩)) := cell_of_row W t 2 _ _ _ h.tw
end
structure NB2 (w : World) (t s l d r : Nat) (base base2 : Nat → Val) (W : World) : Prop where
  sa : StoreAt W s l base
  ra : RStoreAt W d r base2
  tw : blk W t = some (.cells #[.pointer (some ⟨s, 0, none⟩), .pointer none, .pointer (some ⟨d, 0, none⟩), .pointer none] 35 (0, 0))
  b : Below w.heap.size w W
/-- A text, cut to at most 200 bytes. -/
def cutS (s : ByteArray) : ByteArray := s.extract 0 (min (s.size : Int) 200).toNat
theorem cutS_le (s : ByteArray) : (cutS s).size ≤ 200 := by
  unfold cutS
  rw [ByteArray.size_extract]
  omega
theorem putS_le {base : Nat → Val} (h : ∀ p, (base p).s.size ≤ 200) (k n : Int) (x : Val) (hx : x.s.size ≤ 200) : ∀ p, (storePut base k n x p).s.size ≤ 200 := fun p => by
  unfold storePut
  split
  · exact h p
  · unfold updB
    split
    · exact hx
    · exact h p
set_option maxRecDepth 100000 in
set_option maxHeartbeats 4000000 in
theorem dnew_any (a0 : Option Addr) (len0 cap0 : Nat) (z0 : Nat → Wr) (w : World) (w0 : IsWrites w a0 len0 cap0 z0) :
    Calls Try.prog 5 #[.slice a0 len0 cap0] w fun e W' => ∃ t L R base, e = .returned (.pointer (some ⟨t, 0, none⟩)) ∧ Dbl w t L R (VSt.fresh base) (VSt.fresh base) W' ∧ ∀ p, (base p).s.size ≤ 200 := by
  have A0 := w0.at
  clear w0
  go_enter Try.func5, Try.ntmps5
  go_wp2_with fail
  refine (new_any _).mono ?_; rintro e w1 ⟨s, l, rfl, hS, t1, gs, gl⟩
  go_wp2_with fail
  refine (rnewstore _).mono ?_; rintro e w2 ⟨d, r, rfl, hR, t2, gd, gr⟩
  have hsl : s ≠ l := by
    obtain ⟨_, _, q1⟩ := hS.cs
    obtain ⟨_, q2, _⟩ := hS.cl
    intro q; rw [q, q2] at q1; injection q1 with q1; injection q1 with _ q1; cases q1
  have hs1 := hS.lts
  have hl1 : l < w1.heap.size := by obtain ⟨_, q2, _⟩ := hS.cl; exact lt_of_heap q2
  have hd2 := lt_of_heap hR.cd
  have hr2 : r < w2.heap.size := by obtain ⟨_, _, _, q, _⟩ := hR.cm; exact lt_of_heap q
  have z1 := t1.size
  have z2 := t2.size
  have hS2 := hS.keep (Turn.of_below t2 (fun _ => False)) id id
  have b2 := t1.trans (t2.mono t1.size)
  have I0 : NB w w2.heap.size s l d r (fun _ => Val.zero) (w2.alloc (.cells #[.pointer (some ⟨s, 0, none⟩), .pointer none, .pointer (some ⟨d, 0, none⟩), .pointer none] 35)) := by
    have bA : Below w2.heap.size w2 (w2.alloc (.cells #[.pointer (some ⟨s, 0, none⟩), .pointer none, .pointer (some ⟨d, 0, none⟩), .pointer none] 35)) := (Below.refl _ _).alloc (Nat.le_refl _) _
    exact ⟨hS2.keep (Turn.of_below bA (fun _ => False)) id id, hR.below bA, heap_alloc_new _ _, b2.trans (bA.mono b2.size), fun p => by simp [Val.zero]⟩
  clear hS hR t1 t2 hS2 b2
  go_upto_region 2 with fail
  generalize (w2.alloc (.cells #[.pointer (some ⟨s, 0, none⟩), .pointer none, .pointer (some ⟨d, 0, none⟩), .pointer none] 35)) = W3 at *
  generalize w2.heap.size = t at *
  have c0 := I0.c0
  go_upto_block 0 with fail
  go_cut [4] from 15 to 57 (fun _ wx => ∃ base, NB w t s l d r base wx)
  case first =>
    --(a
    go_wp2_with fail
    go_loopw [4] (fun i wr => ∃ j : Nat, j ≤ len0 ∧ i = .int .i64 (j : Int) ∧ ∃ base, NB w t s l d r base wr) (fun i _ => len0 - (intOf i).toNat)
    case atStart => exact ⟨0, by omega, rfl, _, I0⟩
    case round =>
      clear I0 c0
      obtain ⟨j, hj, rfl, base, I⟩ := hrel
      have j0 : (0 : Int) ≤ (j : Int) := by omega
      by_cases hlt : j < len0
      · have l1 : (j : Int) < (len0 : Int) := by omega
        by_cases h60 : (j : Int) < 60
        · obtain ⟨x, rfl, hc, hq, hk, hxs⟩ := A0 j hlt
          have hq' : ∀ i v, (wcs (z0 j))[i]? = some v → wr.cell? ((x.add (j * 19)).add i) = some v := fun i v hv => (I.b.cell (cell_block_lt (hq i v hv))).trans (hq i v hv)
          clear hq A0
          have hlw := run_loadW_at wr (x.add (j * 19)) (z0 j) hq'
          generalize (z0 j).1.1 = A at *
          generalize (z0 j).1.2 = C at *
          generalize (z0 j).2 = X at *
          have hsw : (storeW (.pointer (some ⟨wr.heap.size, 0, none⟩)) (.agg (wcells A C X))).run Try.prog (wr.alloc (Obj.cells zW 73)) = .ok .skip (wr.alloc (Obj.cells (wcells A C X) 73)) := by
            rw [run_storeW _ _ _ _ _ _ _ (blk_alloc_at wr _ _ rfl) rfl, setRow_alloc_at _ _ _ _ _ rfl]
          go_upto_region 8 with fail
          have bA : Below wr.heap.size wr (wr.alloc (.cells (wcells A C X) 73)) := (Below.refl _ _).alloc (Nat.le_refl _) _
          have b4 : blk (wr.alloc (Obj.cells (wcells A C X) 73)) wr.heap.size = some (.cells (wcells A C X) 73 (0, 0)) := blk_alloc_at _ _ _ rfl
          have I4 := I.below bA
          have hK : wr.heap.size ≠ s ∧ wr.heap.size ≠ l ∧ wr.heap.size ≠ d ∧ wr.heap.size ≠ r ∧ wr.heap.size ≠ t ∧ w.heap.size ≤ wr.heap.size := by
            have h1 := I.sa.lts
            have h2 : l < wr.heap.size := by obtain ⟨_, q2, _⟩ := I.sa.cl; exact lt_of_heap q2
            have h3 := lt_of_heap I.ra.cd
            have h4 : r < wr.heap.size := by obtain ⟨_, _, _, q, _⟩ := I.ra.cm; exact lt_of_heap q
            have h5 := blk_lt I.tw
            have h6 := I.b.size
            omega
          clear hlw hsw bA I hq'
          generalize wr.alloc (Obj.cells (wcells A C X) 73) = W4 at *
          generalize wr.heap.size = K at *
          have c18 : W4.cell? ⟨K, 18, none⟩ = some (.string X.s) := cell_of_row _ _ 18 _ _ _ b4
          have f18 := frozen_blk b4 18
          go_upto_region 9 with fail
          have b5 := blk_setCell_same b4 18 (Value.string (X.s.extract 0 (min (X.s.size : Int) 200).toNat))
          rw [wcells_text] at b5
          have T5 : Turn (· = K) W4 (W4.setCell ⟨K, 18, none⟩ (Value.string (X.s.extract 0 (min (X.s.size : Int) 200).toNat))) := (Turn.refl (· = K) W4).setCell (p := ⟨K, 18, none⟩) (Or.inl (show K = K from rfl)) _
          have I5 : NB w t s l d r base (W4.setCell ⟨K, 18, none⟩ (Value.string (X.s.extract 0 (min (X.s.size : Int) 200).toNat))) :=
            ⟨I4.sa.keep T5 (fun e => hK.1 (Eq.symm e)) (fun e => hK.2.1 (Eq.symm e)), I4.ra.keep T5 (fun e => hK.2.2.1 (Eq.symm e)) (fun e => hK.2.2.2.1 (Eq.symm e)), blk_of_turn T5 I4.tw (fun e => hK.2.2.2.2.1 (Eq.symm e)), I4.b.trans (T5.below (B := w.heap.size) I4.b.size (fun i (e : i = K) => by omega)), I4.z⟩
          have hX : (X.text (cutS X.s)).s.size ≤ 200 := cutS_le X.s
          rw [show X.text (X.s.extract 0 (min (X.s.size : Int) 200).toNat) = X.text (cutS X.s) from rfl] at b5
          clear I4 b4 c18 f18 T5
          generalize W4.setCell ⟨K, 18, none⟩ (Value.string (X.s.extract 0 (min (X.s.size : Int) 200).toNat)) = W5 at *
          generalize X.text (cutS X.s) = Y at *
          have t6 : Below W5.heap.size W5 W5.drew := below_drewN (Below.refl _ W5) 1
          have I6 := I5.below t6
          have s6 := wa_of ((t6.block K (lt_of_heap b5)).trans b5)
          clear I5 b5 t6
          refine wp_region_held_drew (S := fun W => WA K A C Y W ∧ W.cell? ⟨t, 0, none⟩ = some (.pointer (some ⟨s, 0, none⟩))) (by kernel_rfl) ⟨s6, I6.c0⟩ (fun hHeld => ?_)
          clear s6
          refine reg_take (i := 0) (v := ?_) rfl rfl (by kernel_rfl) (by kernel_rfl) (by kernel_rfl) (fun _ _ _ h => h) (by assumption) (by rfl) ?_ ?_
          rotate_left 1
          · (intro w hSw; (try dsimp only at hSw); go_simp; try with_reducible rfl)
          try simp only [List.setIfInBounds_toArray, List.set_cons_zero, List.set_cons_succ]
          refine reg_take (i := 1) (v := ?_) rfl rfl (by kernel_rfl) (by kernel_rfl) (by kernel_rfl) (fun _ _ _ h => h) (by assumption) (by rfl) ?_ ?_
          rotate_left 1
          · (intro w hSw; (try dsimp only at hSw); go_simp; try with_reducible rfl)
          try simp only [List.setIfInBounds_toArray, List.set_cons_zero, List.set_cons_succ]
          refine reg_take (i := 2) (v := ?_) rfl rfl (by kernel_rfl) (by kernel_rfl) (by kernel_rfl) (fun _ _ _ h => h) (by assumption) (by rfl) ?_ ?_
          rotate_left 1
          · (intro w hSw; (try dsimp only at hSw); go_simp; try with_reducible rfl)
          try simp only [List.setIfInBounds_toArray, List.set_cons_zero, List.set_cons_succ]
          refine reg_take (i := 3) (v := ?_) rfl rfl (by kernel_rfl) (by kernel_rfl) (by kernel_rfl) (fun _ _ _ h => h) (by assumption) (by rfl) ?_ ?_
          rotate_left 1
          · (intro w hSw; (try dsimp only at hSw); go_simp; try with_reducible rfl)
          try simp only [List.setIfInBounds_toArray, List.set_cons_zero, List.set_cons_succ]
          refine reg_take (i := 4) (v := ?_) rfl rfl (by kernel_rfl) (by kernel_rfl) (by kernel_rfl) (fun _ _ _ h => h) (by assumption) (by rfl) ?_ ?_
          rotate_left 1
          · (intro w hSw; (try dsimp only at hSw); go_simp; try with_reducible rfl)
          try simp only [List.setIfInBounds_toArray, List.set_cons_zero, List.set_cons_succ]
          refine reg_take (i := 5) (v := ?_) rfl rfl (by kernel_rfl) (by kernel_rfl) (by kernel_rfl) (fun _ _ _ h => h) (by assumption) (by rfl) ?_ ?_
          rotate_left 1
          · (intro w hSw; (try dsimp only at hSw); go_simp; try with_reducible rfl)
          try simp only [List.setIfInBounds_toArray, List.set_cons_zero, List.set_cons_succ]
          refine reg_take (i := 6) (v := ?_) rfl rfl (by kernel_rfl) (by kernel_rfl) (by kernel_rfl) (fun _ _ _ h => h) (by assumption) (by rfl) ?_ ?_
          rotate_left 1
          · (intro w hSw; (try dsimp only at hSw); go_simp; try with_reducible rfl)
          try simp only [List.setIfInBounds_toArray, List.set_cons_zero, List.set_cons_succ]
          refine reg_take (i := 7) (v := (.agg Y.cells)) rfl rfl (by kernel_rfl) (by kernel_rfl) (by kernel_rfl) (fun _ _ _ h => h) (by assumption) (by rfl) (fun W hW => run_loadV_mid W K 2 _ Y _ _ hW.1.2.2 (wcells_ext A C Y)) ?_
          try simp only [List.setIfInBounds_toArray, List.set_cons_zero, List.set_cons_succ]
          refine reg_step (i := 8) (by kernel_rfl) rfl (by rfl) (fun KC hKC => ?_)
          go_simp
          refine (sput_any s l _ A C Y hsl _ I6.sa).mono ?_; rintro e w7 ⟨rfl, hS7, T7⟩
          have s7 := wa_turn hHeld.1 T7 hK.2.1
          have htl : t ≠ l := by
            obtain ⟨_, q1, _⟩ := I6.sa.cl
            intro e
            have hT := I6.tw
            subst e
            unfold blk at hT
            rw [q1] at hT
            injection hT with hT
            injection hT with _ hT
            cases hT
          have hlr : l ≠ r := by
            obtain ⟨_, q1, _⟩ := I6.sa.cl
            obtain ⟨_, _, _, q2, _⟩ := I6.ra.cm
            exact cells_ne_map q1 q2
          have hlw : w.heap.size ≤ l := by omega
          have hR7 := I6.ra.keep T7 (fun e => by have : d = l := e; omega) (fun e => hlr (Eq.symm e))
          have hT7 := blk_of_turn T7 I6.tw htl
          have hB7 := I6.b.trans (T7.below (B := w.heap.size) I6.b.size (fun i (e : i = l) => by omega))
          have hz7 := putS_le I6.z A C Y hX
          have I7 : NB2 w t s l d r (storePut base A C Y) base w7 := ⟨hS7, hR7, hT7, hB7⟩
          have c07 := cell_of_row w7 t 0 _ _ _ hT7
          clear I6 hHeld T7 hS7 hR7 hT7 hB7
          refine hKC.out _ _ ?_ (fun hHeld => ?_)
          · exact ⟨s7, c07⟩
          clear hKC KC c07
          refine wpAnyH_done (by kernel_rfl) ?_ _
          clear hHeld
          go_upto_region 10 with fail
          have t8 : Below w7.heap.size w7 w7.drew := below_drewN (Below.refl _ w7) 1
          have s8 := wa_of ((t8.block K (lt_of_heap s7.2.2)).trans s7.2.2)
          have hS8 := I7.sa.keep (Turn.of_below t8 (fun _ => False)) id id
          have hR8 := I7.ra.below t8
          have hT8 := blk_below t8 I7.tw (blk_lt I7.tw)
          have hB8 := I7.b.trans (t8.mono I7.b.size)
          have c28 : w7.drew.cell? ⟨t, 2, none⟩ = some (.pointer (some ⟨d, 0, none⟩)) := cell_of_row _ t 2 _ _ _ hT8
          clear s7 I7 t8
          refine wp_region_held_drew (S := fun W => WA K A C Y W ∧ W.cell? ⟨t, 2, none⟩ = some (.pointer (some ⟨d, 0, none⟩))) (by kernel_rfl) ⟨s8, c28⟩ (fun hHeld => ?_)
          clear s8 c28
          refine reg_take (i := 0) (v := ?_) rfl rfl (by kernel_rfl) (by kernel_rfl) (by kernel_rfl) (fun _ _ _ h => h) (by assumption) (by rfl) ?_ ?_
          rotate_left 1
          · (intro w hSw; (try dsimp only at hSw); go_simp; try with_reducible rfl)
          try simp only [List.setIfInBounds_toArray, List.set_cons_zero, List.set_cons_succ]
          refine reg_take (i := 1) (v := ?_) rfl rfl (by kernel_rfl) (by kernel_rfl) (by kernel_rfl) (fun _ _ _ h => h) (by assumption) (by rfl) ?_ ?_
          rotate_left 1
          · (intro w hSw; (try dsimp only at hSw); go_simp; try with_reducible rfl)
          try simp only [List.setIfInBounds_toArray, List.set_cons_zero, List.set_cons_succ]
          refine reg_take (i := 2) (v := ?_) rfl rfl (by kernel_rfl) (by kernel_rfl) (by kernel_rfl) (fun _ _ _ h => h) (by assumption) (by rfl) ?_ ?_
          rotate_left 1
          · (intro w hSw; (try dsimp only at hSw); go_simp; try with_reducible rfl)
          try simp only [List.setIfInBounds_toArray, List.set_cons_zero, List.set_cons_succ]
          refine reg_take (i := 3) (v := ?_) rfl rfl (by kernel_rfl) (by kernel_rfl) (by kernel_rfl) (fun _ _ _ h => h) (by assumption) (by rfl) ?_ ?_
          rotate_left 1
          · (intro w hSw; (try dsimp only at hSw); go_simp; try with_reducible rfl)
          try simp only [List.setIfInBounds_toArray, List.set_cons_zero, List.set_cons_succ]
          refine reg_take (i := 4) (v := ?_) rfl rfl (by kernel_rfl) (by kernel_rfl) (by kernel_rfl) (fun _ _ _ h => h) (by assumption) (by rfl) ?_ ?_
          rotate_left 1
          · (intro w hSw; (try dsimp only at hSw); go_simp; try with_reducible rfl)
          try simp only [List.setIfInBounds_toArray, List.set_cons_zero, List.set_cons_succ]
          refine reg_take (i := 5) (v := ?_) rfl rfl (by kernel_rfl) (by kernel_rfl) (by kernel_rfl) (fun _ _ _ h => h) (by assumption) (by rfl) ?_ ?_
          rotate_left 1
          · (intro w hSw; (try dsimp only at hSw); go_simp; try with_reducible rfl)
          try simp only [List.setIfInBounds_toArray, List.set_cons_zero, List.set_cons_succ]
          refine reg_take (i := 6) (v := ?_) rfl rfl (by kernel_rfl) (by kernel_rfl) (by kernel_rfl) (fun _ _ _ h => h) (by assumption) (by rfl) ?_ ?_
          rotate_left 1
          · (intro w hSw; (try dsimp only at hSw); go_simp; try with_reducible rfl)
          try simp only [List.setIfInBounds_toArray, List.set_cons_zero, List.set_cons_succ]
          refine reg_take (i := 7) (v := (.agg Y.cells)) rfl rfl (by kernel_rfl) (by kernel_rfl) (by kernel_rfl) (fun _ _ _ h => h) (by assumption) (by rfl) (fun W hW => run_loadV_mid W K 2 _ Y _ _ hW.1.2.2 (wcells_ext A C Y)) ?_
          try simp only [List.setIfInBounds_toArray, List.set_cons_zero, List.set_cons_succ]
          refine reg_step (i := 8) (by kernel_rfl) rfl (by rfl) (fun KC hKC => ?_)
          go_simp
          refine (rput_any d r _ A C Y hk _ hR8).mono ?_; rintro e w9 ⟨rfl, hR9, T9⟩
          have s9 := wa_turn hHeld.1 T9 hK.2.2.2.1
          have htr : t ≠ r := by
            obtain ⟨_, _, _, q2, _⟩ := hR8.cm
            exact cells_ne_map hT8 q2
          have I9 : NB w t s l d r (storePut base A C Y) w9 := ⟨hS8.keep T9 (fun e => by have : s = r := e; omega) hlr, hR9, blk_of_turn T9 hT8 htr, hB8.trans (T9.below (B := w.heap.size) hB8.size (fun i (e : i = r) => by omega)), hz7⟩
          have c29 := I9.c2
          clear hHeld T9 hS8 hR8 hT8 hB8 hR9
          refine hKC.out _ _ ?_ (fun hHeld => ?_)
          · exact ⟨s9, c29⟩
          clear hKC KC c29
          refine wpAnyH_done (by kernel_rfl) ?_ _
          clear hHeld s9
          go_wp2_with fail
          exact ⟨⟨j + 1, by omega, by go_num, _, I9⟩, by simp [intOf]; omega⟩
        · go_wp2_with fail
          go_meet
          case rel => exact ⟨base, I⟩
      · have l1 : ¬ (j : Int) < (len0 : Int) := by omega
        go_wp2_with fail
        go_meet
        case rel => exact ⟨base, I⟩
    --)a
  case rest =>
    clear I0 c0
    obtain ⟨base, I⟩ := hcut
    go_wp2_with fail
    refine (dlook_any w t s l d r _ _ _ _ _ I.sa I.ra I.tw I.b (by omega) ⟨by omega, by omega⟩ hsl (by omega) (by omega)).mono ?_; rintro e w6 ⟨rfl, L, R, e1, e2, e3, e4, H6, T6⟩
    have hz := I.z
    have c1 := H6.cv
    clear I T6
    go_wp2_with fail
    go_ret
    exact ⟨t, L, R, base, rfl, H6, hz⟩
end Go.Proofs.Ytfcgkjbifnhjjaa.St
