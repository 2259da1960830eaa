/- A view of the program's store beside a view of the document's; equality of structures that are the same; writes put one behind the other. The contracts of the document's inodes (key, Is, Alloc) over its own view. The contract of the document's own change of an inode. The two stores with a view each, the program's and the document's, as one fact that each call keeps. No condition but those written in each statement. -/
import Derived.Test.YtfcgkjbifnhjjaaGreatDoorQ59
import Derived.Test.YtfcgkjbifnhjjaaGreatDoorSameWQ
import Derived.Test.YtfcgkjbifnhjjaaGreatDoorQ54
import Derived.Test.YtfcgkjbifnhjjaaGreatDoorQ57
import Derived.Test.YtfcgkjbifnhjjaaGreatDoorPutSQ
import Derived.Test.YtfcgkjbifnhjjaaGreatDoorQ53
import Derived.Deep.Cut
namespace Go.Proofs.YtfcgkjbifnhjjaaGreatDoor.St
open Go.RowKit
set_option linter.unusedVariables false
theorem run_eql_op {xs : Array Value} {ρ : Operand → Value} {t : TypeId} {x y : Operand} {dst : Option Tmp} {ty : TypeId} {pos : String} {after : Array Edge} {guard : Option (Nat × Bool)} {w : World} (hx : ρ x = .agg xs) (hy : ρ y = .agg xs) (hm : Tryz.prog.eqGuardType Tryz.prog.depth t = false) (h : (Op.equalIn 10000 t (.agg xs) (.agg xs)).run Tryz.prog w = .ok true w) :
    (execOp ρ { dst, op := .binOp .eql t x y t, type := ty, pos, after, guard }).run Tryz.prog w = .ok (.value (.bool true)) w := by
  simp [execOp, hx, hy, run_eql_struct, h, run_eqGuard_agg w .eql t x y xs xs hm]
theorem turn_cells_two {S : Nat → Prop} {W W' : World} {K : Nat} {A C : Int} (h : W.cell? ⟨K, 0, none⟩ = some (.int .i64 A) ∧ W.cell? ⟨K, 1, none⟩ = some (.int .i64 C)) (hT : Turn S W W') (hK : ¬ S K) : W'.cell? ⟨K, 0, none⟩ = some (.int .i64 A) ∧ W'.cell? ⟨K, 1, none⟩ = some (.int .i64 C) := by
  have hb := hT.block K (cell_block_lt h.1) hK
  have e : ∀ i, W'.cell? ⟨K, i, none⟩ = W.cell? ⟨K, i, none⟩ := fun i => by simp only [World.cell?, hb]
  rw [e, e]; exact h
abbrev K2 (K : Nat) (A C : Int) (W : World) : Prop := W.cell? ⟨K, 0, none⟩ = some (.int .i64 A) ∧ W.cell? ⟨K, 1, none⟩ = some (.int .i64 C)
/-- The blocks of the one and of the other lie apart; what is written lies behind the inputs. -/
structure Off (w : World) (L : Lay) (R : RLay) : Prop where
  lo : ∀ i, i = L.l ∨ i = L.r ∨ i = L.m → w.heap.size ≤ i ∧ i ≠ R.q ∧ i ≠ R.d ∧ i ≠ R.s ∧ i ≠ R.r ∧ i ≠ R.m
  ro : ∀ i, i = R.s ∨ i = R.r ∨ i = R.m → w.heap.size ≤ i ∧ i ≠ L.v ∧ i ≠ L.s ∧ i ≠ L.l ∧ i ≠ L.r ∧ i ≠ L.m
  vl : L.v ≠ L.l
  sl : L.s ≠ L.l
  rl : L.r ≠ L.l
  ml : L.m ≠ L.l
/-- The program's view is in state a, the document's in state b. -/
structure Pl (w : World) (L : Lay) (R : RLay) (a b : VSt) (W : World) : Prop where
  v : ViewAt W L a
  r : RViewAt W R b
  b : Below w.heap.size w W
section
variable {w : World} {L : Lay} {R : RLay} {a b a' b' : VSt} {W W' : World}
theorem Pl.below (h : Pl w L R a b W) (hb : Below W.heap.size W W') : Pl w L R a b W' :=
  ⟨h.v.below hb, h.r.below hb, h.b.trans (hb.mono h.b.size)⟩
theorem Pl.left {S : Nat → Prop} (F : Off w L R) (h : Pl w L R a b W) (hV : ViewAt W' L a') (T : Turn S W W') (hS : ∀ i, S i → i = L.l ∨ i = L.r ∨ i = L.m) : Pl w L R a' b W' :=
  ⟨hV, h.r.keep T (fun i q => (F.lo i (hS i q)).2), h.b.trans (T.below (B := w.heap.size) h.b.size (fun i q => (F.lo i (hS i q)).1))⟩
theorem Pl.right {S : Nat → Prop} (F : Off w L R) (h : Pl w L R a b W) (hV : RViewAt W' R b') (T : Turn S W W') (hS : ∀ i, S i → i = R.s ∨ i = R.r ∨ i = R.m) : Pl w L R a b' W' :=
  ⟨h.v.keep T (fun i q => (F.ro i (hS i q)).2), hV, h.b.trans (T.below (B := w.heap.size) h.b.size (fun i q => (F.ro i (hS i q)).1))⟩
/-- The program's store is written beneath its view. -/
theorem Pl.store (F : Off w L R) (h : Pl w L R a b W) (base : Nat → Val) (hS : StoreAt W' L.s L.l base) (T : Turn (· = L.l) W W') : Pl w L R { a with base := base } b W' := by
  obtain ⟨er, cr, r1, r2⟩ := h.v.cr
  obtain ⟨em, cm, m1, m2⟩ := h.v.cm
  exact h.left F ⟨blk_of_turn T h.v.cv (fun q => F.vl q), hS, ⟨er, cr, blk_of_turn T r1 (fun q => F.rl q), r2⟩, ⟨em, cm, blk_of_turn T m1 (fun q => F.ml q), m2⟩, h.v.ne⟩ T (fun i q => Or.inl q)
/-- The document's store is written beneath its view. -/
theorem Pl.rstore (F : Off w L R) (h : Pl w L R a b W) (base : Nat → Val) (hS : RStoreAt W' R.d R.s base) (T : Turn (· = R.s) W W') : Pl w L R a { b with base := base } W' := by
  obtain ⟨er, cr, r1, r2⟩ := h.r.cr
  obtain ⟨em, cm, m1, m2⟩ := h.r.cm
  obtain ⟨es, cs, f, s1, _⟩ := h.r.sa.cm
  have n1 : R.q ≠ R.s := cells_ne_map h.r.cq s1
  exact h.right F ⟨blk_of_turn T h.r.cq (fun q => n1 q), hS, ⟨er, cr, blk_of_turn T r1 (fun q => h.r.ne.2.1 q.symm), r2⟩, ⟨em, cm, blk_of_turn T m1 (fun q => h.r.ne.2.2 q.symm), m2⟩, h.r.ne⟩ T (fun i q => Or.inl q)
end
theorem RViewAt.lts {W : World} {R : RLay} {st : VSt} (h : RViewAt W R st) : R.q < W.heap.size ∧ R.d < W.heap.size ∧ R.s < W.heap.size ∧ R.r < W.heap.size ∧ R.m < W.heap.size := by
  obtain ⟨_, _, hr, _⟩ := h.cr
  obtain ⟨_, _, hm, _⟩ := h.cm
  obtain ⟨_, _, _, hs, _⟩ := h.sa.cm
  exact ⟨lt_of_heap h.cq, lt_of_heap h.sa.cd, lt_of_heap hs, lt_of_heap hr, lt_of_heap hm⟩
/-- New views of the same stores. -/
theorem Off.new {w W W2 : World} {L L2 : Lay} {R R2 : RLay} (F : Off w L R) (hL : L.l < W.heap.size) (hs : L.s < W.heap.size) (hd : R.d < W.heap.size) (hr : R.s < W.heap.size) (hw : w.heap.size ≤ W.heap.size)
    (e1 : L2.s = L.s) (e2 : L2.l = L.l) (e3 : R2.d = R.d) (e4 : R2.s = R.s) (gv : W.heap.size ≤ L2.v) (gr : W.heap.size ≤ L2.r) (gm : W.heap.size ≤ L2.m) (lv : L2.v < W2.heap.size) (lr : L2.r < W2.heap.size) (lm : L2.m < W2.heap.size)
    (hq : W2.heap.size ≤ R2.q) (hr2 : W2.heap.size ≤ R2.r) (hm2 : W2.heap.size ≤ R2.m) : Off w L2 R2 := by
  have h1 := F.lo L.l (Or.inl rfl)
  have h2 := F.ro R.s (Or.inl rfl)
  have h3 := F.sl
  refine ⟨fun i hi => ?_, fun i hi => ?_, ?_, ?_, ?_, ?_⟩ <;> omega
/-- Writes put into a store, one behind the other. -/
def putAll (base : Nat → Val) (l : List Wr) : Nat → Val := l.foldl (fun b y => storePut b y.1.1 y.1.2 y.2) base
theorem putAll_step (base : Nat → Val) (l : List Wr) (j : Nat) (h : j < l.length) : putAll base (l.take (j + 1)) = storePut (putAll base (l.take j)) l[j].1.1 l[j].1.2 l[j].2 := by
  unfold putAll
  rw [List.take_succ_eq_append_getElem h, List.foldl_append]; rfl
theorem rd_len (st : VSt) : (rdP st).length ≤ 55 := rise_len _ (plF_rises _) (plF_lt _)
theorem ft_len (st : VSt) : (ftP st).length ≤ 55 := rise_len _ (plF_rises _) (plF_lt _)
theorem wrL_le (st : VSt) : (wrL st).length ≤ 55 := by rw [wrL_len]; exact rise_len _ (plF_rises _) (plF_lt _)
theorem vok_base {st : VSt} (h : VOk st) (base : Nat → Val) : VOk { st with base := base } := ⟨h.rd, h.wr⟩
theorem WL.turn {B : Nat} {S : Nat → Prop} {W W' : World} {v : Value} {l : List Wr} (h : WL B W v l) (hT : Turn S W W') (hS : ∀ i, B ≤ i → ¬ S i) : WL B W' v l := by
  refine ⟨h.1, ?_⟩
  rcases h.2 with q | ⟨g, cap, cur, h1, h2, h3, h4⟩
  · exact Or.inl q
  · exact Or.inr ⟨g, cap, cur, h1, h2, blk_of_turn hT h3 (hS g h2), h4⟩
theorem wrL_key (st : VSt) (j : Nat) (h : j < (wrL st).length) : (wrL st)[j].1.1 ≤ 9223372036854775807 := by
  have hj : j < (wrP st).length := by rw [← wrL_len]; exact h
  have hm := (plF_lt _) _ (List.getElem_mem (show j < (wrP st).length from hj))
  obtain ⟨p, hp⟩ := Int.eq_ofNat_of_zero_le hm.1
  have hk := place_keyP p (by omega)
  have := (place_range _ _ (show 0 ≤ placeI (keyP (p : Int)).1 (keyP (p : Int)).2 by rw [hk]; omega)).2.2.2.1
  have e : (wrL st)[j].1 = keyP (wrP st)[j] := by
    exact congrArg Prod.fst (List.getElem_map (fun p => (keyP p, (st.wr (keyP p).1 (keyP p).2).getD Val.zero)))
  rw [e, hp]
  omega
theorem WL.get {B : Nat} {W : World} {a : Option Addr} {n c : Nat} {l : List Wr} (h : WL B W (.slice a n c) l) (j : Nat) (hj : j < l.length) : ∃ g cur, a = some ⟨g, 0, none⟩ ∧ B ≤ g ∧ blk W g = some (.cells cur 62 (0, 0)) ∧ cur.extract (j * 19) (j * 19 + 19) = wcells l[j].1.1 l[j].1.2 l[j].2 := by
  rcases h.at with ⟨rfl, _⟩ | ⟨g, c', cur, e, _, hB, h2, h3⟩
  · simp at hj
  · injection e with e1
    exact ⟨g, cur, e1, hB, h2, h3 j hj⟩
end Go.Proofs.YtfcgkjbifnhjjaaGreatDoor.St

namespace Go.Proofs.YtfcgkjbifnhjjaaGreatDoor.St
open Go.RowKit
set_option linter.unusedVariables false
attribute [local go_sem] blk_alloc_at blk_alloc_past blk_drew blk_drewN blk_setB_same blk_setB_other blk_setRow_other setRow_alloc_at setRow_alloc_past setRow_drewN setRow_drew setB_size setB_cell setB_frozen setB_alloc_past setB_drewN setB_drew run_loadV loadOr_cells run_storeV storeOr_cells cells_size ones_cells cells_0 cells_1 cells_2 cells_16 cells_g0 cells_g1 cells_g2 cells_g16 cells_set0 cells_set1 cells_set2 cells_text
attribute [local go_sem ↓] execOp_loadV execOp_storeV
theorem and_zero (y : Int) : (bits BinOp.and IntKind.i64 y 1 == 0) = !(bits BinOp.and IntKind.i64 y 1 == 1) := by
  have h1 : (BitVec.ofInt 64 1).toNat = 2 ^ 1 - 1 := by decide
  have e : bits BinOp.and IntKind.i64 y 1 = wrap64 (((BitVec.ofInt 64 y).toNat % 2 : Nat) : Int) := by
    show IntKind.i64.wrap (((BitVec.ofInt 64 y) &&& (BitVec.ofInt 64 1)).toNat : Int) = _
    rw [BitVec.toNat_and, h1, Nat.and_two_pow_sub_one_eq_mod, wrap_i64]
  rw [e]
  have : (BitVec.ofInt 64 y).toNat % 2 = 0 ∨ (BitVec.ofInt 64 y).toNat % 2 = 1 := by omega
  have w0 : wrap64 ((0 : Nat) : Int) = 0 := by unfold wrap64; omega
  have w1 : wrap64 ((1 : Nat) : Int) = 1 := by unfold wrap64; omega
  rcases this with q | q
  · rw [q, w0]; rfl
  · rw [q, w1]; rfl
attribute [local irreducible] Int.lt Int.le
/-- A value's numbers. -/
def Val.ns (x : Val) : Array Value :=
  #[.int .i64 (x.n 0), .int .i64 (x.n 1), .int .i64 (x.n 2), .int .i64 (x.n 3), .int .i64 (x.n 4), .int .i64 (x.n 5), .int .i64 (x.n 6), .int .i64 (x.n 7),
    .int .i64 (x.n 8), .int .i64 (x.n 9), .int .i64 (x.n 10), .int .i64 (x.n 11), .int .i64 (x.n 12), .int .i64 (x.n 13), .int .i64 (x.n 14), .int .i64 (x.n 15)]
theorem run_field0 (x : Val) (w : World) : (Instr.field 60 (.agg x.cells) 0).run Tryz.prog w = .ok (.agg x.ns) w := by kernel_rfl
theorem run_field1 (x : Val) (w : World) : (Instr.field 60 (.agg x.cells) 1).run Tryz.prog w = .ok (.string x.s) w := by kernel_rfl
theorem run_index0 (x : Val) (w : World) : (Instr.index 58 (.agg x.ns) (.int .i64 0)).run Tryz.prog w = .ok (.int .i64 (x.n 0)) w := by kernel_rfl
attribute [local go_sem] run_field0 run_field1 run_index0
theorem rikey_any (i : Int) (w : World) :
    Calls Tryz.prog 91 #[.int .i64 i] w fun e w' => e = .returned (keyV 10 i) ∧ Below w.heap.size w w' := by
  go_enter Tryz.func91, Tryz.ntmps91
  go_wp2_with fail
  exact bodyPost_key (b := w.heap.size) rfl rfl rfl (heap_alloc_new _ _) rfl ⟨rfl, (Below.refl _ _).alloc (Nat.le_refl _) _⟩
theorem RViewAt.off {B : Nat} {W W' : World} {R : RLay} {st : VSt} (h : RViewAt W R st) (hT : Turn (fun j => B ≤ j) W W') (lt : R.q < B ∧ R.d < B ∧ R.s < B ∧ R.r < B ∧ R.m < B) : RViewAt W' R st :=
  h.keep hT (fun i q => by omega)
set_option maxRecDepth 100000 in
set_option maxHeartbeats 1000000 in
theorem ris_any (R : RLay) (st : VSt) (i : Int) (w : World) (hV : RViewAt w R st) :
    Calls Tryz.prog 58 #[.pointer (some ⟨R.q, 0, none⟩), .int .i64 i] w fun e w' => e = .returned (.bool (iHas st i)) ∧ RViewAt w' R (iSaw st i) ∧ Turn (· = R.r) w w' := by
  unfold iHas iSaw
  by_cases h : i < 1 ∨ 16 ≤ i
  · rw [if_pos h, if_pos h]
    have hh : decide (1 ≤ i) = false ∨ decide (1 ≤ i) = true ∧ decide (i < 16) = false := by simp; omega
    rcases hh with h1 | ⟨h1, h2⟩
    all_goals
      go_enter Tryz.func58, Tryz.ntmps58
      go_wp2_with fail
      go_ret
      exact ⟨rfl, hV, Turn.refl _ _⟩
  · rw [if_neg h, if_neg h]
    have h1 : decide (1 ≤ i) = true := by simp; omega
    have h2 : decide (i < 16) = true := by simp; omega
    have lt := hV.lts
    go_enter Tryz.func58, Tryz.ntmps58
    go_wp2_with fail
    refine (rikey_any i _).mono ?_; rintro e w1 ⟨rfl, t1⟩
    have hv1 := hV.below t1
    go_wp2_with fail
    refine (rvget_any R st 10 i (by decide) _ hv1).mono ?_; rintro e w2 ⟨rfl, hv2, t2⟩
    generalize hg : st.get 10 i = x at *
    go_wp2_with fail
    go_ret
    exact ⟨by rw [hg]; rfl, hv2, (Turn.of_below t1 _).trans t2⟩
theorem rmaps {R : RLay} {W W' : World} (h : Turn (· = R.r) W W') : Turn (fun k => k = R.r ∨ k = R.m) W W' := h.mono fun _ _ => Or.inl
theorem rmaps' {R : RLay} {W W' : World} (h : Turn (· = R.m) W W') : Turn (fun k => k = R.r ∨ k = R.m) W W' := h.mono fun _ _ => Or.inr
theorem rvput_at {R : RLay} {st : VSt} {k n : Int} {x : Val} (hk : k ≤ 9223372036854775807) {w : World} (hV : RViewAt w R st) :
    Calls Tryz.prog 40 #[.pointer (some ⟨R.q, 0, none⟩), keyV k n, .agg x.cells] w fun e w' => (∃ v, e = .returned v) ∧ RViewAt w' R (st.put k n x) ∧ Turn (fun k => k = R.r ∨ k = R.m) w w' :=
  (rvput_any R st k n x hk w hV).mono fun e w' ⟨a, b, c⟩ => ⟨a, b, rmaps' c⟩
end Go.Proofs.YtfcgkjbifnhjjaaGreatDoor.St

namespace Go.Proofs.YtfcgkjbifnhjjaaGreatDoor.St
open Go.RowKit
set_option linter.unusedVariables false
attribute [local go_sem] blk_alloc_at blk_alloc_past blk_drew blk_drewN blk_setB_same blk_setB_other blk_setRow_other setRow_alloc_at setRow_alloc_past setRow_drewN setRow_drew setB_size setB_cell setB_frozen setB_alloc_past setB_drewN setB_drew run_loadV loadOr_cells run_storeV storeOr_cells cells_size ones_cells cells_0 cells_1 cells_2 cells_16 cells_g0 cells_g1 cells_g2 cells_g16 cells_set0 cells_set1 cells_set2 cells_text
attribute [local go_sem ↓] execOp_loadV execOp_storeV
attribute [local irreducible] Int.lt Int.le
theorem saw_twice (st : VSt) (k n : Int) : (st.saw k n).saw k n = st.saw k n := by
  unfold VSt.saw
  by_cases h : placeI k n < 0
  · rw [if_pos h, if_pos h]
  · rw [if_neg h, if_neg h]
    unfold VSt.reads
    congr 1
    funext a b
    unfold updK
    by_cases e : a = k ∧ b = n <;> simp [e]
theorem get_saw' (st : VSt) (a b k n : Int) : (st.saw a b).get k n = st.get k n := by
  unfold VSt.saw
  split
  · rfl
  · rfl
/-- What is said of an inode that is there. -/
theorem has_val {st : VSt} {i : Int} (h : iHas st i = true) : iSaw st i = st.saw 10 i ∧ iVal st i = st.get 10 i := by
  have h1 := has_in h
  unfold iHas at h
  rw [if_neg (by omega)] at h
  refine ⟨by unfold iSaw; rw [if_neg (by omega)], ?_⟩
  unfold iVal iValIn
  rw [if_neg (by omega), if_neg (fun e => ?_)]
  rw [e] at h
  cases h
end Go.Proofs.YtfcgkjbifnhjjaaGreatDoor.St

namespace Go.Proofs.YtfcgkjbifnhjjaaGreatDoor.St
open Go.RowKit
set_option linter.unusedVariables false
/-- The program's view is in state a, the document's in state b. -/
structure Dbl (w : World) (t : Nat) (L : Lay) (R : RLay) (a b : VSt) (W : World) : Prop where
  p : Pl w L R a b W
  f : Off w L R
  tw : TwoAt W t L.s L.v R.d R.q
  tz : w.heap.size ≤ t
section
variable {w : World} {t : Nat} {L : Lay} {R : RLay} {a b a' b' : VSt} {W W' : World}
/-- A block of cells that are no values is none of those that calls change. -/
theorem Pl.far (h : Pl w L R a b W) {g : Nat} {c : Array Value} {ty : TypeId} {fz : Nat × Nat} (hg : blk W g = some (.cells c ty fz)) (ht : ty ≠ 60) : g ≠ L.l ∧ g ≠ L.r ∧ g ≠ L.m ∧ g ≠ R.s ∧ g ≠ R.r ∧ g ≠ R.m := by
  obtain ⟨_, hl, _⟩ := h.v.sa.cl
  obtain ⟨_, _, hr, _⟩ := h.v.cr
  obtain ⟨_, _, hm, _⟩ := h.v.cm
  obtain ⟨_, _, qr, _⟩ := h.r.cr
  obtain ⟨_, _, qm, _⟩ := h.r.cm
  obtain ⟨_, _, _, qs, _⟩ := h.r.sa.cm
  refine ⟨fun e => ?_, cells_ne_map hg hr, cells_ne_map hg hm, cells_ne_map hg qs, cells_ne_map hg qr, cells_ne_map hg qm⟩
  subst e
  unfold blk at hg
  rw [hl] at hg
  injection hg with hg
  injection hg with _ hg
  exact ht hg.symm
theorem Dbl.far (h : Dbl w t L R a b W) : t ≠ L.l ∧ t ≠ L.r ∧ t ≠ L.m ∧ t ≠ R.s ∧ t ≠ R.r ∧ t ≠ R.m := h.p.far h.tw (by decide)
theorem Dbl.below (h : Dbl w t L R a b W) (hb : Below W.heap.size W W') : Dbl w t L R a b W' := ⟨h.p.below hb, h.f, blk_below hb h.tw (blk_lt h.tw), h.tz⟩
theorem Dbl.left {S : Nat → Prop} (h : Dbl w t L R a b W) (hV : ViewAt W' L a') (T : Turn S W W') (hS : ∀ i, S i → i = L.l ∨ i = L.r ∨ i = L.m) : Dbl w t L R a' b W' :=
  ⟨h.p.left h.f hV T hS, h.f, blk_of_turn T h.tw (fun q => by have := hS t q; have := h.far; omega), h.tz⟩
theorem Dbl.right {S : Nat → Prop} (h : Dbl w t L R a b W) (hV : RViewAt W' R b') (T : Turn S W W') (hS : ∀ i, S i → i = R.s ∨ i = R.r ∨ i = R.m) : Dbl w t L R a b' W' :=
  ⟨h.p.right h.f hV T hS, h.f, blk_of_turn T h.tw (fun q => by have := hS t q; have := h.far; omega), h.tz⟩
theorem Dbl.cv (h : Dbl w t L R a b W) : W.cell? ⟨t, 1, none⟩ = some (.pointer (some ⟨L.v, 0, none⟩)) := by
  have c := cell_of_row W t 1 _ _ _ h.tw
  simpa using c
theorem Dbl.cq (h : Dbl w t L R a b W) : W.cell? ⟨t, 3, none⟩ = some (.pointer (some ⟨R.q, 0, none⟩)) := by
  have c := cell_of_row W t 3 _ _ _ h.tw
  simpa using c
theorem Dbl.cs (h : Dbl w t L R a b W) : W.cell? ⟨t, 0, none⟩ = some (.pointer (some ⟨L.s, 0, none⟩)) := by
  have c := cell_of_row W t 0 _ _ _ h.tw
  simpa using c
theorem Dbl.cd (h : Dbl w t L R a b W) : W.cell? ⟨t, 2, none⟩ = some (.pointer (some ⟨R.d, 0, none⟩)) := by
  have c := cell_of_row W t 2 _ _ _ h.tw
  simpa using c
end
end Go.Proofs.YtfcgkjbifnhjjaaGreatDoor.St
