/- A view of the program's store beside a view of the document's; equality of structures that are the same; writes put one behind the other. The contracts of the document's inodes (key, Is, Alloc) over its own view. The contract of the document's own change of an inode. The contracts of the document's own Read and Write of an inode. The two stores with a view each, the program's and the document's, as one fact that each call keeps. No condition but those written in each statement. -/
import Derived.Test.YtfcgkjbifnhjjaaGreatQ10
import Derived.Test.YtfcgkjbifnhjjaaGreatSameWQ
import Derived.Test.YtfcgkjbifnhjjaaGreatQ5
import Derived.Test.YtfcgkjbifnhjjaaGreatQ8
import Derived.Test.YtfcgkjbifnhjjaaGreatPutSQ
import Derived.Test.YtfcgkjbifnhjjaaGreatQ4
import Derived.Deep.Cut
namespace Go.Proofs.YtfcgkjbifnhjjaaGreat.St
open Go.RowKit
set_option linter.unusedVariables false
theorem run_eql_op {xs : Array Value} {ρ : Operand → Value} {t : TypeId} {x y : Operand} {dst : Option Tmp} {ty : TypeId} {pos : String} {after : Array Edge} {guard : Option (Nat × Bool)} {w : World} (hx : ρ x = .agg xs) (hy : ρ y = .agg xs) (hm : Tryz.prog.eqGuardType Tryz.prog.depth t = false) (h : (Op.equalIn 10000 t (.agg xs) (.agg xs)).run Tryz.prog w = .ok true w) :
    (execOp ρ { dst, op := .binOp .eql t x y t, type := ty, pos, after, guard }).run Tryz.prog w = .ok (.value (.bool true)) w := by
  simp [execOp, hx, hy, run_eql_struct, h, run_eqGuard_agg w .eql t x y xs xs hm]
theorem turn_cells_two {S : Nat → Prop} {W W' : World} {K : Nat} {A C : Int} (h : W.cell? ⟨K, 0, none⟩ = some (.int .i64 A) ∧ W.cell? ⟨K, 1, none⟩ = some (.int .i64 C)) (hT : Turn S W W') (hK : ¬ S K) : W'.cell? ⟨K, 0, none⟩ = some (.int .i64 A) ∧ W'.cell? ⟨K, 1, none⟩ = some (.int .i64 C) := by
  have hb := hT.block K (cell_block_lt h.1) hK
  have e : ∀ i, W'.cell? ⟨K, i, none⟩ = W.cell? ⟨K, i, none⟩ := fun i => by simp only [World.cell?, hb]
  rw [e, e]; exact h
abbrev K2 (K : Nat) (A C : Int) (W : World) : Prop := W.cell? ⟨K, 0, none⟩ = some (.int .i64 A) ∧ W.cell? ⟨K, 1, none⟩ = some (.int .i64 C)
/-- The blocks of the one and of the other lie apart; what is written lies behind the inputs. -/
structure Off (w : World) (L : Lay) (R : RLay) : Prop where
  lo : ∀ i, i = L.l ∨ i = L.r ∨ i = L.m → w.heap.size ≤ i ∧ i ≠ R.q ∧ i ≠ R.d ∧ i ≠ R.s ∧ i ≠ R.r ∧ i ≠ R.m
  ro : ∀ i, i = R.s ∨ i = R.r ∨ i = R.m → w.heap.size ≤ i ∧ i ≠ L.v ∧ i ≠ L.s ∧ i ≠ L.l ∧ i ≠ L.r ∧ i ≠ L.m
  vl : L.v ≠ L.l
  sl : L.s ≠ L.l
  rl : L.r ≠ L.l
  ml : L.m ≠ L.l
/-- The program's view is in state a, the document's in state b. -/
structure Pl (w : World) (L : Lay) (R : RLay) (a b : VSt) (W : World) : Prop where
  v : ViewAt W L a
  r : RViewAt W R b
  b : Below w.heap.size w W
section
variable {w : World} {L : Lay} {R : RLay} {a b a' b' : VSt} {W W' : World}
theorem Pl.below (h : Pl w L R a b W) (hb : Below W.heap.size W W') : Pl w L R a b W' :=
  ⟨h.v.below hb, h.r.below hb, h.b.trans (hb.mono h.b.size)⟩
theorem Pl.left {S : Nat → Prop} (F : Off w L R) (h : Pl w L R a b W) (hV : ViewAt W' L a') (T : Turn S W W') (hS : ∀ i, S i → i = L.l ∨ i = L.r ∨ i = L.m) : Pl w L R a' b W' :=
  ⟨hV, h.r.keep T (fun i q => (F.lo i (hS i q)).2), h.b.trans (T.below (B := w.heap.size) h.b.size (fun i q => (F.lo i (hS i q)).1))⟩
theorem Pl.right {S : Nat → Prop} (F : Off w L R) (h : Pl w L R a b W) (hV : RViewAt W' R b') (T : Turn S W W') (hS : ∀ i, S i → i = R.s ∨ i = R.r ∨ i = R.m) : Pl w L R a b' W' :=
  ⟨h.v.keep T (fun i q => (F.ro i (hS i q)).2), hV, h.b.trans (T.below (B := w.heap.size) h.b.size (fun i q => (F.ro i (hS i q)).1))⟩
/-- The program's store is written beneath its view. -/
theorem Pl.store (F : Off w L R) (h : Pl w L R a b W) (base : Nat → Val) (hS : StoreAt W' L.s L.l base) (T : Turn (· = L.l) W W') : Pl w L R { a with base := base } b W' := by
  obtain ⟨er, cr, r1, r2⟩ := h.v.cr
  obtain ⟨em, cm, m1, m2⟩ := h.v.cm
  exact h.left F ⟨blk_of_turn T h.v.cv (fun q => F.vl q), hS, ⟨er, cr, blk_of_turn T r1 (fun q => F.rl q), r2⟩, ⟨em, cm, blk_of_turn T m1 (fun q => F.ml q), m2⟩, h.v.ne⟩ T (fun i q => Or.inl q)
/-- The document's store is written beneath its view. -/
theorem Pl.rstore (F : Off w L R) (h : Pl w L R a b W) (base : Nat → Val) (hS : RStoreAt W' R.d R.s base) (T : Turn (· = R.s) W W') : Pl w L R a { b with base := base } W' := by
  obtain ⟨er, cr, r1, r2⟩ := h.r.cr
  obtain ⟨em, cm, m1, m2⟩ := h.r.cm
  obtain ⟨es, cs, f, s1, _⟩ := h.r.sa.cm
  have n1 : R.q ≠ R.s := cells_ne_map h.r.cq s1
  exact h.right F ⟨blk_of_turn T h.r.cq (fun q => n1 q), hS, ⟨er, cr, blk_of_turn T r1 (fun q => h.r.ne.2.1 q.symm), r2⟩, ⟨em, cm, blk_of_turn T m1 (fun q => h.r.ne.2.2 q.symm), m2⟩, h.r.ne⟩ T (fun i q => Or.inl q)
end
theorem RViewAt.lts {W : World} {R : RLay} {st : VSt} (h : RViewAt W R st) : R.q < W.heap.size ∧ R.d < W.heap.size ∧ R.s < W.heap.size ∧ R.r < W.heap.size ∧ R.m < W.heap.size := by
  obtain ⟨_, _, hr, _⟩ := h.cr
  obtain ⟨_, _, hm, _⟩ := h.cm
  obtain ⟨_, _, _, hs, _⟩ := h.sa.cm
  exact ⟨lt_of_heap h.cq, lt_of_heap h.sa.cd, lt_of_heap hs, lt_of_heap hr, lt_of_heap hm⟩
/-- New views of the same stores. -/
theorem Off.new {w W W2 : World} {L L2 : Lay} {R R2 : RLay} (F : Off w L R) (hL : L.l < W.heap.size) (hs : L.s < W.heap.size) (hd : R.d < W.heap.size) (hr : R.s < W.heap.size) (hw : w.heap.size ≤ W.heap.size)
    (e1 : L2.s = L.s) (e2 : L2.l = L.l) (e3 : R2.d = R.d) (e4 : R2.s = R.s) (gv : W.heap.size ≤ L2.v) (gr : W.heap.size ≤ L2.r) (gm : W.heap.size ≤ L2.m) (lv : L2.v < W2.heap.size) (lr : L2.r < W2.heap.size) (lm : L2.m < W2.heap.size)
    (hq : W2.heap.size ≤ R2.q) (hr2 : W2.heap.size ≤ R2.r) (hm2 : W2.heap.size ≤ R2.m) : Off w L2 R2 := by
  have h1 := F.lo L.l (Or.inl rfl)
  have h2 := F.ro R.s (Or.inl rfl)
  have h3 := F.sl
  refine ⟨fun i hi => ?_, fun i hi => ?_, ?_, ?_, ?_, ?_⟩ <;> omega
/-- Writes put into a store, one behind the other. -/
def putAll (base : Nat → Val) (l : List Wr) : Nat → Val := l.foldl (fun b y => storePut b y.1.1 y.1.2 y.2) base
theorem putAll_step (base : Nat → Val) (l : List Wr) (j : Nat) (h : j < l.length) : putAll base (l.take (j + 1)) = storePut (putAll base (l.take j)) l[j].1.1 l[j].1.2 l[j].2 := by
  unfold putAll
  rw [List.take_succ_eq_append_getElem h, List.foldl_append]; rfl
theorem rd_len (st : VSt) : (rdP st).length ≤ 55 := rise_len _ (plF_rises _) (plF_lt _)
theorem ft_len (st : VSt) : (ftP st).length ≤ 55 := rise_len _ (plF_rises _) (plF_lt _)
theorem wrL_le (st : VSt) : (wrL st).length ≤ 55 := by rw [wrL_len]; exact rise_len _ (plF_rises _) (plF_lt _)
theorem vok_base {st : VSt} (h : VOk st) (base : Nat → Val) : VOk { st with base := base } := ⟨h.rd, h.wr⟩
theorem WL.turn {B : Nat} {S : Nat → Prop} {W W' : World} {v : Value} {l : List Wr} (h : WL B W v l) (hT : Turn S W W') (hS : ∀ i, B ≤ i → ¬ S i) : WL B W' v l := by
  refine ⟨h.1, ?_⟩
  rcases h.2 with q | ⟨g, cap, cur, h1, h2, h3, h4⟩
  · exact Or.inl q
  · exact Or.inr ⟨g, cap, cur, h1, h2, blk_of_turn hT h3 (hS g h2), h4⟩
theorem wrL_key (st : VSt) (j : Nat) (h : j < (wrL st).length) : (wrL st)[j].1.1 ≤ 9223372036854775807 := by
  have hj : j < (wrP st).length := by rw [← wrL_len]; exact h
  have hm := (plF_lt _) _ (List.getElem_mem (show j < (wrP st).length from hj))
  obtain ⟨p, hp⟩ := Int.eq_ofNat_of_zero_le hm.1
  have hk := place_keyP p (by omega)
  have := (place_range _ _ (show 0 ≤ placeI (keyP (p : Int)).1 (keyP (p : Int)).2 by rw [hk]; omega)).2.2.2.1
  have e : (wrL st)[j].1 = keyP (wrP st)[j] := by
    exact congrArg Prod.fst (List.getElem_map (fun p => (keyP p, (st.wr (keyP p).1 (keyP p).2).getD Val.zero)))
  rw [e, hp]
  omega
theorem WL.get {B : Nat} {W : World} {a : Option Addr} {n c : Nat} {l : List Wr} (h : WL B W (.slice a n c) l) (j : Nat) (hj : j < l.length) : ∃ g cur, a = some ⟨g, 0, none⟩ ∧ B ≤ g ∧ blk W g = some (.cells cur 57 (0, 0)) ∧ cur.extract (j * 19) (j * 19 + 19) = wcells l[j].1.1 l[j].1.2 l[j].2 := by
  rcases h.at with ⟨rfl, _⟩ | ⟨g, c', cur, e, _, hB, h2, h3⟩
  · simp at hj
  · injection e with e1
    exact ⟨g, cur, e1, hB, h2, h3 j hj⟩
end Go.Proofs.YtfcgkjbifnhjjaaGreat.St

namespace Go.Proofs.YtfcgkjbifnhjjaaGreat.St
open Go.RowKit
set_option linter.unusedVariables false
attribute [local go_sem] blk_alloc_at blk_alloc_past blk_drew blk_drewN blk_setB_same blk_setB_other blk_setRow_other setRow_alloc_at setRow_alloc_past setRow_drewN setRow_drew setB_size setB_cell setB_frozen setB_alloc_past setB_drewN setB_drew run_loadV loadOr_cells run_storeV storeOr_cells cells_size ones_cells cells_0 cells_1 cells_2 cells_16 cells_g0 cells_g1 cells_g2 cells_g16 cells_set0 cells_set1 cells_set2 cells_text
attribute [local go_sem ↓] execOp_loadV execOp_storeV
theorem and_zero (y : Int) : (bits BinOp.and IntKind.i64 y 1 == 0) = !(bits BinOp.and IntKind.i64 y 1 == 1) := by
  have h1 : (BitVec.ofInt 64 1).toNat = 2 ^ 1 - 1 := by decide
  have e : bits BinOp.and IntKind.i64 y 1 = wrap64 (((BitVec.ofInt 64 y).toNat % 2 : Nat) : Int) := by
    show IntKind.i64.wrap (((BitVec.ofInt 64 y) &&& (BitVec.ofInt 64 1)).toNat : Int) = _
    rw [BitVec.toNat_and, h1, Nat.and_two_pow_sub_one_eq_mod, wrap_i64]
  rw [e]
  have : (BitVec.ofInt 64 y).toNat % 2 = 0 ∨ (BitVec.ofInt 64 y).toNat % 2 = 1 := by omega
  have w0 : wrap64 ((0 : Nat) : Int) = 0 := by unfold wrap64; omega
  have w1 : wrap64 ((1 : Nat) : Int) = 1 := by unfold wrap64; omega
  rcases this with q | q
  · rw [q, w0]; rfl
  · rw [q, w1]; rfl
attribute [local irreducible] Int.lt Int.le
/-- A value's numbers. -/
def Val.ns (x : Val) : Array Value :=
  #[.int .i64 (x.n 0), .int .i64 (x.n 1), .int .i64 (x.n 2), .int .i64 (x.n 3), .int .i64 (x.n 4), .int .i64 (x.n 5), .int .i64 (x.n 6), .int .i64 (x.n 7),
    .int .i64 (x.n 8), .int .i64 (x.n 9), .int .i64 (x.n 10), .int .i64 (x.n 11), .int .i64 (x.n 12), .int .i64 (x.n 13), .int .i64 (x.n 14), .int .i64 (x.n 15)]
theorem run_field0 (x : Val) (w : World) : (Instr.field 55 (.agg x.cells) 0).run Tryz.prog w = .ok (.agg x.ns) w := by kernel_rfl
theorem run_field1 (x : Val) (w : World) : (Instr.field 55 (.agg x.cells) 1).run Tryz.prog w = .ok (.string x.s) w := by kernel_rfl
theorem run_index0 (x : Val) (w : World) : (Instr.index 53 (.agg x.ns) (.int .i64 0)).run Tryz.prog w = .ok (.int .i64 (x.n 0)) w := by kernel_rfl
attribute [local go_sem] run_field0 run_field1 run_index0
theorem rikey_any (i : Int) (w : World) :
    Calls Tryz.prog 38 #[.int .i64 i] w fun e w' => e = .returned (keyV 10 i) ∧ Below w.heap.size w w' := by
  go_enter Tryz.func38, Tryz.ntmps38
  go_wp2_with fail
  exact bodyPost_key (b := w.heap.size) rfl rfl rfl (heap_alloc_new _ _) rfl ⟨rfl, (Below.refl _ _).alloc (Nat.le_refl _) _⟩
theorem RViewAt.off {B : Nat} {W W' : World} {R : RLay} {st : VSt} (h : RViewAt W R st) (hT : Turn (fun j => B ≤ j) W W') (lt : R.q < B ∧ R.d < B ∧ R.s < B ∧ R.r < B ∧ R.m < B) : RViewAt W' R st :=
  h.keep hT (fun i q => by omega)
set_option maxRecDepth 100000 in
set_option maxHeartbeats 1000000 in
theorem ris_any (R : RLay) (st : VSt) (i : Int) (w : World) (hV : RViewAt w R st) :
    Calls Tryz.prog 44 #[.pointer (some ⟨R.q, 0, none⟩), .int .i64 i] w fun e w' => e = .returned (.bool (iHas st i)) ∧ RViewAt w' R (iSaw st i) ∧ Turn (· = R.r) w w' := by
  unfold iHas iSaw
  by_cases h : i < 1 ∨ 16 ≤ i
  · rw [if_pos h, if_pos h]
    have hh : decide (1 ≤ i) = false ∨ decide (1 ≤ i) = true ∧ decide (i < 16) = false := by simp; omega
    rcases hh with h1 | ⟨h1, h2⟩
    all_goals
      go_enter Tryz.func44, Tryz.ntmps44
      go_wp2_with fail
      go_ret
      exact ⟨rfl, hV, Turn.refl _ _⟩
  · rw [if_neg h, if_neg h]
    have h1 : decide (1 ≤ i) = true := by simp; omega
    have h2 : decide (i < 16) = true := by simp; omega
    have lt := hV.lts
    go_enter Tryz.func44, Tryz.ntmps44
    go_wp2_with fail
    refine (rikey_any i _).mono ?_; rintro e w1 ⟨rfl, t1⟩
    have hv1 := hV.below t1
    go_wp2_with fail
    refine (rvget_any R st 10 i (by decide) _ hv1).mono ?_; rintro e w2 ⟨rfl, hv2, t2⟩
    generalize hg : st.get 10 i = x at *
    go_wp2_with fail
    go_ret
    exact ⟨by rw [hg]; rfl, hv2, (Turn.of_below t1 _).trans t2⟩
theorem rmaps {R : RLay} {W W' : World} (h : Turn (· = R.r) W W') : Turn (fun k => k = R.r ∨ k = R.m) W W' := h.mono fun _ _ => Or.inl
theorem rmaps' {R : RLay} {W W' : World} (h : Turn (· = R.m) W W') : Turn (fun k => k = R.r ∨ k = R.m) W W' := h.mono fun _ _ => Or.inr
theorem rvput_at {R : RLay} {st : VSt} {k n : Int} {x : Val} (hk : k ≤ 9223372036854775807) {w : World} (hV : RViewAt w R st) :
    Calls Tryz.prog 65 #[.pointer (some ⟨R.q, 0, none⟩), keyV k n, .agg x.cells] w fun e w' => (∃ v, e = .returned v) ∧ RViewAt w' R (st.put k n x) ∧ Turn (fun k => k = R.r ∨ k = R.m) w w' :=
  (rvput_any R st k n x hk w hV).mono fun e w' ⟨a, b, c⟩ => ⟨a, b, rmaps' c⟩
end Go.Proofs.YtfcgkjbifnhjjaaGreat.St

namespace Go.Proofs.YtfcgkjbifnhjjaaGreat.St
open Go.RowKit
set_option linter.unusedVariables false
attribute [local go_sem] blk_alloc_at blk_alloc_past blk_drew blk_drewN blk_setB_same blk_setB_other blk_setRow_other setRow_alloc_at setRow_alloc_past setRow_drewN setRow_drew setB_size setB_cell setB_frozen setB_alloc_past setB_drewN setB_drew run_loadV loadOr_cells run_storeV storeOr_cells cells_size ones_cells cells_0 cells_1 cells_2 cells_16 cells_g0 cells_g1 cells_g2 cells_g16 cells_set0 cells_set1 cells_set2 cells_text
attribute [local go_sem ↓] execOp_loadV execOp_storeV
attribute [local irreducible] Int.lt Int.le
theorem saw_twice (st : VSt) (k n : Int) : (st.saw k n).saw k n = st.saw k n := by
  unfold VSt.saw
  by_cases h : placeI k n < 0
  · rw [if_pos h, if_pos h]
  · rw [if_neg h, if_neg h]
    unfold VSt.reads
    congr 1
    funext a b
    unfold updK
    by_cases e : a = k ∧ b = n <;> simp [e]
theorem get_saw' (st : VSt) (a b k n : Int) : (st.saw a b).get k n = st.get k n := by
  unfold VSt.saw
  split
  · rfl
  · rfl
/-- What is said of an inode that is there. -/
theorem has_val {st : VSt} {i : Int} (h : iHas st i = true) : iSaw st i = st.saw 10 i ∧ iVal st i = st.get 10 i := by
  have h1 := has_in h
  unfold iHas at h
  rw [if_neg (by omega)] at h
  refine ⟨by unfold iSaw; rw [if_neg (by omega)], ?_⟩
  unfold iVal iValIn
  rw [if_neg (by omega), if_neg (fun e => ?_)]
  rw [e] at h
  cases h
end Go.Proofs.YtfcgkjbifnhjjaaGreat.St

namespace Go.Proofs.YtfcgkjbifnhjjaaGreat.St
open Go.RowKit
set_option linter.unusedVariables false
theorem val_none {st : VSt} {i : Int} (h : iHas st i = false) : iVal st i = Val.zero := by
  unfold iHas at h
  unfold iVal iValIn
  by_cases c : i < 1 ∨ 16 ≤ i
  · rw [if_pos c]
  · rw [if_neg c] at h ⊢
    rw [if_pos (by simpa using h)]
theorem read_none {st : VSt} {i off n : Int} (h : iHas st i = false) : iRead st i off n = ByteArray.empty := by
  unfold iRead
  rw [val_none h, if_pos]
  rw [show ((Val.zero.s.size : Nat) : Int) = 0 from rfl]
  omega
theorem ext_ext (s : ByteArray) (a m : Nat) (h : a + m ≤ s.size) : (s.extract a s.size).extract 0 m = s.extract a (a + m) := by
  apply ByteArray.ext
  simp only [ByteArray.data_extract, Array.extract_extract]
  congr 1
  omega
attribute [local go_sem] blk_alloc_at blk_alloc_past blk_drew blk_drewN blk_setB_same blk_setB_other blk_setRow_other setRow_alloc_at setRow_alloc_past setRow_drewN setRow_drew setB_size setB_cell setB_frozen setB_alloc_past setB_drewN setB_drew run_loadV loadOr_cells run_storeV storeOr_cells cells_size ones_cells cells_0 cells_1 cells_2 cells_16 cells_g0 cells_g1 cells_g2 cells_g16 cells_set0 cells_set1 cells_set2 cells_text run_field1
attribute [local go_sem ↓] execOp_loadV execOp_storeV
attribute [local irreducible] Int.lt Int.le
/-- Where nothing may be written. -/
theorem rwrite_no (R : RLay) (st : VSt) (i off : Int) (d : ByteArray) (hm : ¬ iMay st i off) (w : World) (hV : RViewAt w R st) :
    Calls Tryz.prog 39 #[.pointer (some ⟨R.q, 0, none⟩), .int .i64 i, .int .i64 off, .string d] w fun e w' => e = .returned (.int .i64 (-1)) ∧ RViewAt w' R (iSaw st i) ∧ Turn (· = R.r) w w' := by
  have hz := zero_val
  cases hh : iHas st i with
  | false =>
    clear hm
    go_enter Tryz.func39, Tryz.ntmps39
    go_wp2_with fail
    refine (ris_any R st i _ hV).mono ?_; rintro e w1 ⟨rfl, hv1, t1⟩
    go_wp2_with fail
    go_ret
    exact ⟨rfl, hv1, t1⟩
  | true =>
    obtain ⟨es, ev⟩ := has_val hh
    have HS := Lib.hid es
    by_cases a1 : off < 0 ∨ 128 < off
    · have hg : decide (off < 0) = true ∨ decide (off < 0) = false ∧ decide (128 < off) = true := by simp; omega
      clear es ev hm a1
      rcases hg with g1 | ⟨g1, g2⟩
      all_goals
        go_enter Tryz.func39, Tryz.ntmps39
        go_wp2_with fail
        refine (ris_any R st i _ hV).mono ?_; rintro e w1 ⟨rfl, hv1, t1⟩
        go_wp2_with fail
        go_ret
        exact ⟨rfl, hv1, t1⟩
    · have g1 : decide (off < 0) = false := decide_eq_false (by omega)
      have g2 : decide (128 < off) = false := decide_eq_false (by omega)
      have g3 : ((st.get 10 i).s.size : Int) < off := by
        apply Decidable.byContradiction; intro c
        exact hm ⟨hh, by omega, by omega, by rw [ev]; omega⟩
      have g4 : decide (((st.get 10 i).s.size : Int) < off) = true := decide_eq_true g3
      clear es ev hm a1 g3
      go_enter Tryz.func39, Tryz.ntmps39
      go_wp2_with fail
      refine (ris_any R st i _ hV).mono ?_; rintro e w1 ⟨rfl, hv1, t1⟩
      rw [HS.out] at hv1
      go_wp2_with fail
      refine (rikey_any i _).mono ?_; rintro e w2 ⟨rfl, t2⟩
      have hv2 := hv1.below t2
      have T2 := t1.trans (Turn.of_below t2 _)
      clear hv1 t1 t2 hV
      go_wp2_with fail
      refine (rvget_any R _ 10 i (by decide) _ hv2).mono ?_; rintro e w3 ⟨rfl, hv3, t3⟩
      rw [saw_twice] at hv3
      rw [get_saw']
      have T3 := T2.trans t3
      generalize hx : st.get 10 i = x at *
      clear hv2 T2 t3
      have b4 : Below w3.heap.size w3 (w3.alloc (Obj.cells x.cells 55)) := (Below.refl _ _).alloc (Nat.le_refl _) _
      have hv4 := hv3.below b4
      have T4 := T3.trans (Turn.of_below b4 _)
      clear hv3 T3 b4
      go_wp2_with fail
      go_ret
      exact ⟨rfl, by rw [HS.out]; exact hv4, T4⟩
set_option maxRecDepth 100000 in
set_option maxHeartbeats 4000000 in
theorem rwrite_yes (R : RLay) (st : VSt) (i off : Int) (d : ByteArray) (hm : iMay st i off) (hs : ((iVal st i).s.size : Int) ≤ 140737488351232) (hd : (d.size : Int) ≤ 140737488351232) (w : World) (hV : RViewAt w R st) :
    Calls Tryz.prog 39 #[.pointer (some ⟨R.q, 0, none⟩), .int .i64 i, .int .i64 off, .string d] w fun e w' => e = .returned (.int .i64 ((iPart d off).size : Int)) ∧ RViewAt w' R ((iSaw st i).put 10 i ((iVal st i).text (iOver (iVal st i).s off (iPart d off)))) ∧ Turn (fun k => k = R.r ∨ k = R.m) w w' := by
  have hz := zero_val
  obtain ⟨hh, o1, o2, o3⟩ := hm
  obtain ⟨es, ev⟩ := has_val hh
  have HS := Lib.hid es
  have HV := Lib.hid ev
  rw [ev] at o3 hs
  have g1 : decide (off < 0) = false := decide_eq_false (by omega)
  have g2 : decide (128 < off) = false := decide_eq_false (by omega)
  have e1 : wrap64 (128 - off) = 128 - off := wrap_small _ (by omega) (by omega)
  clear es ev
  go_enter Tryz.func39, Tryz.ntmps39
  go_wp2_with fail
  refine (ris_any R st i _ hV).mono ?_; rintro e w1 ⟨rfl, hv1, t1⟩
  rw [HS.out] at hv1
  go_wp2_with fail
  refine (rikey_any i _).mono ?_; rintro e w2 ⟨rfl, t2⟩
  have hv2 := hv1.below t2
  have T2 := t1.trans (Turn.of_below t2 _)
  clear hv1 t1 t2 hV
  go_wp2_with fail
  refine (rvget_any R _ 10 i (by decide) _ hv2).mono ?_; rintro e w3 ⟨rfl, hv3, t3⟩
  rw [saw_twice] at hv3
  rw [get_saw']
  have T3 := rmaps (T2.trans t3)
  generalize hx : st.get 10 i = x at *
  clear hv2 T2 t3
  have g3 : decide ((x.s.size : Int) < off) = false := decide_eq_false (by omega)
  go_upto_region 6 with fail
  have b4 : Below w3.heap.size w3 (w3.alloc (Obj.cells x.cells 55)) := (Below.refl _ _).alloc (Nat.le_refl _) _
  have r4 : blk (w3.alloc (Obj.cells x.cells 55)) w3.heap.size = some (.cells x.cells 55 (0, 0)) := heap_alloc_new _ _
  have hv4 := hv3.below b4
  have T4 := T3.trans (Turn.of_below b4 _)
  have hB0 := T3.size
  have hl4 := hv3.lts
  clear hv3 T3 b4
  generalize (w3.alloc (Obj.cells x.cells 55)) = W4 at *
  generalize w3.heap.size = B at *
  have c16 := cell_of_row _ _ 16 _ _ _ r4
  rw [cells_16] at c16
  have f16 := frozen_blk r4 16
  have m0 : 0 ≤ min (d.size : Int) (128 - off) := by omega
  have m1 : min (d.size : Int) (128 - off) ≤ (d.size : Int) := by omega
  go_upto_region 7 with fail
  rw [show d.extract 0 (min (d.size : Int) (128 - off)).toNat = iPart d off from rfl]
  have hDs := part_size d off (by omega)
  have HD := Lib.hid hDs
  have hD8 : ((iPart d off).size : Int) ≤ 128 := by omega
  clear hDs m0 m1
  generalize hDD : iPart d off = D at *
  have e2 : wrap64 (off + (D.size : Int)) = off + (D.size : Int) := wrap_small _ (by omega) (by omega)
  have m2 : 0 ≤ min (x.s.size : Int) (off + (D.size : Int)) := by omega
  have m3 : min (x.s.size : Int) (off + (D.size : Int)) ≤ (x.s.size : Int) := by omega
  have z1 : (((x.s.extract 0 off.toNat).size : Nat) : Int) + (D.size : Int) ≤ 9223372036854775807 := by
    rw [ByteArray.size_extract]; omega
  have z2 : ((((x.s.extract 0 off.toNat) ++ D).size : Nat) : Int) + (((x.s.extract (min (x.s.size : Int) (off + (D.size : Int))).toNat x.s.size).size : Nat) : Int) ≤ 9223372036854775807 := by
    rw [ByteArray.size_append, ByteArray.size_extract, ByteArray.size_extract]; omega
  go_upto_region 8 with fail
  go_region
  rw [show x.s.extract 0 off.toNat ++ D ++ x.s.extract (min (x.s.size : Int) (off + (D.size : Int))).toNat x.s.size = iOver x.s off D from rfl]
  have r5 := blk_setCell_same r4 16 (Value.string (iOver x.s off D))
  rw [cells_text] at r5
  have tl : Turn (fun k => B ≤ k) W4 (W4.setCell ⟨B, 16, none⟩ (Value.string (iOver x.s off D))).drew := ((Turn.refl _ W4).setCell (p := ⟨B, 16, none⟩) (Or.inl (show B ≤ B from Nat.le_refl _)) _).drew
  have hv6 := hv4.off tl hl4
  have T6 := T4.offS tl hB0
  have r6 : blk (W4.setCell ⟨B, 16, none⟩ (Value.string (iOver x.s off D))).drew B = some (.cells (x.text (iOver x.s off D)).cells 55 (0, 0)) := by rw [blk_drew]; exact r5
  clear r5 tl hv4 T4 r4 c16 f16
  generalize (W4.setCell ⟨B, 16, none⟩ (Value.string (iOver x.s off D))).drew = W6 at *
  generalize hy : x.text (iOver x.s off D) = y at *
  go_upto_region 9 with fail
  have b7 : Below W6.heap.size W6 W6.drew := below_drewN (Below.refl _ W6) 1
  have r7 : blk W6.drew B = some (.cells y.cells 55 (0, 0)) := r6
  have hv7 := hv6.below b7
  have T7 := T6.trans (Turn.of_below b7 _)
  clear b7 hv6 T6 r6
  refine wp_region_held_drew (S := fun W => blk W B = some (.cells y.cells 55 (0, 0))) (by kernel_rfl) r7 (fun hHeld => ?_)
  clear r7
  refine reg_take (i := 0) (v := ?_) rfl rfl (by kernel_rfl) (by kernel_rfl) (by kernel_rfl) (fun _ _ _ h => h) (by assumption) (by rfl) ?_ ?_
  rotate_left 1
  · (intro w hSw; (try dsimp only at hSw); go_simp; try with_reducible rfl)
  try simp only [List.setIfInBounds_toArray, List.set_cons_zero, List.set_cons_succ]
  refine reg_take (i := 1) (v := ?_) rfl rfl (by kernel_rfl) (by kernel_rfl) (by kernel_rfl) (fun _ _ _ h => h) (by assumption) (by rfl) ?_ ?_
  rotate_left 1
  · (intro w hSw; (try dsimp only at hSw); go_simp; try with_reducible rfl)
  try simp only [List.setIfInBounds_toArray, List.set_cons_zero, List.set_cons_succ]
  refine reg_take (i := 3) (v := (.agg y.cells)) rfl rfl (by kernel_rfl) (by kernel_rfl) (by kernel_rfl) (fun _ _ _ h => h) (by assumption) (by rfl) (fun W hW => loadV_blk hW) ?_
  try simp only [List.setIfInBounds_toArray, List.set_cons_zero, List.set_cons_succ]
  refine reg_step (i := 2) (by kernel_rfl) rfl (by rfl) (fun KC hKC => ?_)
  go_simp
  refine (rikey_any i _).mono ?_; rintro e w8 ⟨rfl, t8⟩
  have r8 := (t8.block B (lt_of_heap hHeld)).trans hHeld
  have hv8 := hv7.below t8
  have T8 := T7.trans (Turn.of_below t8 _)
  clear hHeld hv7 T7 t8
  refine hKC.out _ _ ?_ (fun hHeld => ?_)
  · exact r8
  clear hKC KC
  refine reg_step (i := 4) (by kernel_rfl) rfl (by rfl) (fun KC hKC => ?_)
  go_simp
  refine (rvput_at (R := R) (st := st.saw 10 i) (k := 10) (n := i) (x := y) (by decide) hv8).mono ?_; rintro e w9 ⟨⟨v9, rfl⟩, hv9, t9⟩
  have T9 := T8.trans t9
  have r9 : blk w9 B = some (.cells y.cells 55 (0, 0)) := by
    refine blk_of_turn t9 r8 (fun e => ?_)
    obtain ⟨_, _, q1, _⟩ := hv8.cr
    obtain ⟨_, _, q2, _⟩ := hv8.cm
    have n1 := cells_ne_map r8 q1
    have n2 := cells_ne_map r8 q2
    omega
  clear T8 t9 hHeld r8 hv8
  refine hKC.out _ _ ?_ (fun hHeld => ?_)
  · exact r9
  clear hKC KC
  refine wpAnyH_done (by kernel_rfl) ?_ _
  clear hHeld r9
  go_wp2_with fail
  go_ret
  exact ⟨ret_int (by rw [hDD]), by rw [HS.out, HV.out, hDD, hy]; exact hv9, T9⟩
theorem rwrite_any (R : RLay) (st : VSt) (i off : Int) (d : ByteArray) (hs : ((iVal st i).s.size : Int) ≤ 140737488351232) (hd : (d.size : Int) ≤ 140737488351232) (w : World) (hV : RViewAt w R st) :
    Calls Tryz.prog 39 #[.pointer (some ⟨R.q, 0, none⟩), .int .i64 i, .int .i64 off, .string d] w fun e w' => e = .returned (.int .i64 (iWrote st i off d)) ∧ RViewAt w' R (iWrite st i off d) ∧ Turn (fun k => k = R.r ∨ k = R.m) w w' := by
  unfold iWrite iWrote
  by_cases h : iMay st i off
  · rw [if_pos h, if_pos h]; exact rwrite_yes R st i off d h hs hd w hV
  · rw [if_neg h, if_neg h]; exact (rwrite_no R st i off d h w hV).mono fun e w' ⟨a, b, c⟩ => ⟨a, b, rmaps c⟩
end Go.Proofs.YtfcgkjbifnhjjaaGreat.St

namespace Go.Proofs.YtfcgkjbifnhjjaaGreat.St
open Go.RowKit
set_option linter.unusedVariables false
/-- The program's view is in state a, the document's in state b. -/
structure Dbl (w : World) (t : Nat) (L : Lay) (R : RLay) (a b : VSt) (W : World) : Prop where
  p : Pl w L R a b W
  f : Off w L R
  tw : TwoAt W t L.s L.v R.d R.q
  tz : w.heap.size ≤ t
section
variable {w : World} {t : Nat} {L : Lay} {R : RLay} {a b a' b' : VSt} {W W' : World}
/-- A block of cells that are no values is none of those that calls change. -/
theorem Pl.far (h : Pl w L R a b W) {g : Nat} {c : Array Value} {ty : TypeId} {fz : Nat × Nat} (hg : blk W g = some (.cells c ty fz)) (ht : ty ≠ 55) : g ≠ L.l ∧ g ≠ L.r ∧ g ≠ L.m ∧ g ≠ R.s ∧ g ≠ R.r ∧ g ≠ R.m := by
  obtain ⟨_, hl, _⟩ := h.v.sa.cl
  obtain ⟨_, _, hr, _⟩ := h.v.cr
  obtain ⟨_, _, hm, _⟩ := h.v.cm
  obtain ⟨_, _, qr, _⟩ := h.r.cr
  obtain ⟨_, _, qm, _⟩ := h.r.cm
  obtain ⟨_, _, _, qs, _⟩ := h.r.sa.cm
  refine ⟨fun e => ?_, cells_ne_map hg hr, cells_ne_map hg hm, cells_ne_map hg qs, cells_ne_map hg qr, cells_ne_map hg qm⟩
  subst e
  unfold blk at hg
  rw [hl] at hg
  injection hg with hg
  injection hg with _ hg
  exact ht hg.symm
theorem Dbl.far (h : Dbl w t L R a b W) : t ≠ L.l ∧ t ≠ L.r ∧ t ≠ L.m ∧ t ≠ R.s ∧ t ≠ R.r ∧ t ≠ R.m := h.p.far h.tw (by decide)
theorem Dbl.below (h : Dbl w t L R a b W) (hb : Below W.heap.size W W') : Dbl w t L R a b W' := ⟨h.p.below hb, h.f, blk_below hb h.tw (blk_lt h.tw), h.tz⟩
theorem Dbl.left {S : Nat → Prop} (h : Dbl w t L R a b W) (hV : ViewAt W' L a') (T : Turn S W W') (hS : ∀ i, S i → i = L.l ∨ i = L.r ∨ i = L.m) : Dbl w t L R a' b W' :=
  ⟨h.p.left h.f hV T hS, h.f, blk_of_turn T h.tw (fun q => by have := hS t q; have := h.far; omega), h.tz⟩
theorem Dbl.right {S : Nat → Prop} (h : Dbl w t L R a b W) (hV : RViewAt W' R b') (T : Turn S W W') (hS : ∀ i, S i → i = R.s ∨ i = R.r ∨ i = R.m) : Dbl w t L R a b' W' :=
  ⟨h.p.right h.f hV T hS, h.f, blk_of_turn T h.tw (fun q => by have := hS t q; have := h.far; omega), h.tz⟩
theorem Dbl.cv (h : Dbl w t L R a b W) : W.cell? ⟨t, 1, none⟩ = some (.pointer (some ⟨L.v, 0, none⟩)) := by
  have c := cell_of_row W t 1 _ _ _ h.tw
  simpa using c
theorem Dbl.cq (h : Dbl w t L R a b W) : W.cell? ⟨t, 3, none⟩ = some (.pointer (some ⟨R.q, 0, none⟩)) := by
  have c := cell_of_row W t 3 _ _ _ h.tw
  simpa using c
theorem Dbl.cs (h : Dbl w t L R a b W) : W.cell? ⟨t, 0, none⟩ = some (.pointer (some ⟨L.s, 0, none⟩)) := by
  have c := cell_of_row W t 0 _ _ _ h.tw
  simpa using c
theorem Dbl.cd (h : Dbl w t L R a b W) : W.cell? ⟨t, 2, none⟩ = some (.pointer (some ⟨R.d, 0, none⟩)) := by
  have c := cell_of_row W t 2 _ _ _ h.tw
  simpa using c
end
end Go.Proofs.YtfcgkjbifnhjjaaGreat.St
