/- The little tree of cloisterlaw12, and chapter 12's runs. No condition but those written in each statement. -/
import Derived.Test.YtcefigpdodlonaaDoorPatC
namespace Go.Proofs.YtcefigpdodlonaaDoor.St
open Go.RowKit
set_option linter.unusedVariables false

/-- A new store, its view: nothing is in them. -/
theorem s_newV (w : World) : Calls Tryd.prog 14 #[.slice none 0 0] w fun e W => ∃ t d q, ∃ L : Lay, e = .returned (.pointer (some ⟨t, 0, none⟩)) ∧ Std w t L d q (csN 0) W :=
  (tnew_nil w).mono fun e W ⟨t, d, q, L, he, a, b, c, e', _, _, _, _, _, gr, gm⟩ => ⟨t, d, q, L, he, ⟨b, a, e', gr, gm⟩⟩

/-- The views behind the three inodes. -/
def trT (j : Nat) : Int := if j = 2 then 2 else 1
def trN : Nat → VSt
  | 0 => csN 0
  | n + 1 => iAlloc (trN n) (trT n)
theorem tr_free : ∀ j, j < 3 → iFree (trN j) = j + 1 := by
  intro j hj
  have : j = 0 ∨ j = 1 ∨ j = 2 := by omega
  rcases this with rfl | rfl | rfl <;> (show _ = (_ : Nat); kernel_rfl)
def T6 (E1 E2 : List Ent) (st : VSt) : Prop := DirAt st 1 E1 ∧ DirAt st 2 E2 ∧ Holds st 3 2 0 0 ByteArray.empty ∧ (∀ j : Int, 4 ≤ j → j < 16 → (st.get 10 j).n 0 = 0) ∧ (st.get 9 0).n 0 = 14
theorem tr_done : T6 [] [] (trN 3) := by
  have f0 := tr_free 0 (by decide)
  have f1 := tr_free 1 (by decide)
  have f2 := tr_free 2 (by decide)
  have a1 : DirAt (trN 1) 1 [] := by
    have := dirAt_new (trN 0) (by omega) (by omega)
    rw [f0] at this; exact this
  have a2 : DirAt (trN 2) 2 [] := by
    have := dirAt_new (trN 1) (by omega) (by omega)
    rw [f1] at this; exact this
  have b1 : DirAt (trN 2) 1 [] := dirAt_same a1 (alloc_get _ _ _ _ (by omega) (by rw [f1]; decide))
  have c1 : DirAt (trN 3) 1 [] := dirAt_same b1 (alloc_get _ _ _ _ (by omega) (by rw [f2]; decide))
  have c2 : DirAt (trN 3) 2 [] := dirAt_same a2 (alloc_get _ _ _ _ (by omega) (by rw [f2]; decide))
  have c3 : Holds (trN 3) 3 2 0 0 ByteArray.empty := by
    have := alloc_same (trN 2) 2 (by omega) (by omega)
    rw [f2] at this; exact this
  refine ⟨c1, c2, c3, fun j h1 h2 => ?_, by kernel_rfl⟩
  have : j = 4 ∨ j = 5 ∨ j = 6 ∨ j = 7 ∨ j = 8 ∨ j = 9 ∨ j = 10 ∨ j = 11 ∨ j = 12 ∨ j = 13 ∨ j = 14 ∨ j = 15 := by omega
  rcases this with rfl | rfl | rfl | rfl | rfl | rfl | rfl | rfl | rfl | rfl | rfl | rfl <;> (show _ = (0 : Int); kernel_rfl)

def TREE (st : VSt) : Prop := T6 (dirE 1 1 [(⟨#[97]⟩, 2)]) (dirE 2 1 [(⟨#[98]⟩, 3)]) st
theorem T6.same {E1 E2 : List Ent} {st st' : VSt} (H : T6 E1 E2 st) (h : ∀ k n, st'.get k n = st.get k n) : T6 E1 E2 st' :=
  ⟨dirAt_same H.1 (h _ _), dirAt_same H.2.1 (h _ _), by unfold Holds; rw [h]; exact H.2.2.1, fun j a b => by rw [h]; exact H.2.2.2.1 j a b, by rw [h]; exact H.2.2.2.2⟩
theorem let_a : isLet ⟨#[97]⟩ := ⟨0, by decide, by decide +kernel⟩
theorem let_b : isLet ⟨#[98]⟩ := ⟨1, by decide, by decide +kernel⟩
theorem TREE.gt {st : VSt} (H : TREE st) : GT st 3 (fun i => decide (i ≠ 3)) (fun i => if i = 1 then [(⟨#[97]⟩, 2)] else [(⟨#[98]⟩, 3)]) (fun _ => 1) := by
  obtain ⟨h1, h2, h3, h4, h5⟩ := H
  refine ⟨by decide, fun j a b => ?_, fun j a b => h4 j (by omega) b, by decide, fun j a b c => ?_, fun j a b c => ?_, fun j a b c e he => ?_⟩
  · rw [h5]
    have : j = 1 ∨ j = 2 ∨ j = 3 ∨ j = 4 ∨ j = 5 ∨ j = 6 ∨ j = 7 ∨ j = 8 ∨ j = 9 ∨ j = 10 ∨ j = 11 ∨ j = 12 ∨ j = 13 ∨ j = 14 ∨ j = 15 := by omega
    rcases this with rfl | rfl | rfl | rfl | rfl | rfl | rfl | rfl | rfl | rfl | rfl | rfl | rfl | rfl | rfl <;> (show _ = (_ : Bool); kernel_rfl)
  · have : j = 1 ∨ j = 2 ∨ j = 3 := by omega
    rcases this with rfl | rfl | rfl
    · exact ⟨h1, by decide, by decide, by decide⟩
    · exact ⟨h2, by decide, by decide, by decide⟩
    · simp at c
  · have : j = 1 ∨ j = 2 ∨ j = 3 := by omega
    rcases this with rfl | rfl | rfl
    · simp at c
    · simp at c
    · exact h3
  · have : j = 1 ∨ j = 2 ∨ j = 3 := by omega
    rcases this with rfl | rfl | rfl
    · simp at he; subst he
      exact ⟨let_a, by decide, by decide, fun _ => rfl⟩
    · simp at he; subst he
      exact ⟨let_b, by decide, by decide, fun q => by simp at q⟩
    · simp at c

section
variable {w W : World} {t : Nat} {L : Lay} {d q : Nat} {st : VSt}

theorem tr_alloc (j : Nat) (hj : j < 3) (S : Std w t L d q (trN j) W) : Calls Tryd.prog 15 #[.pointer (some ⟨L.v, 0, none⟩), .int .i64 (trT j)] W fun e W' => e = .returned (.tuple #[.int .i64 ((j : Int) + 1), .bool true]) ∧ Std w t L d q (trN (j + 1)) W' ∧ Maps L W W' := by
  have hf := tr_free j hj
  have h := s_alloc S (trT j)
  rw [show iGot (trN j) = (j : Int) + 1 by unfold iGot; rw [hf, if_pos (by omega)]; omega, hf, decide_eq_true (by omega : j + 1 < 16)] at h
  exact h
theorem t6_add1 {E1 E2 : List Ent} (hM : Mx w) (S : Std w t L d q st W) (H : T6 E1 E2 st) (s : ByteArray) (n : Int) (hs : s.size ≤ 1048576) :
    Calls Tryd.prog 16 #[.pointer (some ⟨L.v, 0, none⟩), .int .i64 1, .string s, .int .i64 n] W fun e W' => e = .returned (.bool (addB E1 s n)) ∧ ∃ st', T6 (addE E1 s n) E2 st' ∧ Std w t L d q st' W' := by
  obtain ⟨h1, h2, h3, h4, h5⟩ := H
  exact (d_add hM S h1 (by decide) (by decide) s n hs).mono fun e W' ⟨a, st', ⟨b, c⟩, S', _⟩ => ⟨a, st', ⟨b, dirAt_same h2 (c _ _ (by omega)), by unfold Holds; rw [c _ _ (by omega)]; exact h3, fun j x y => by rw [c _ _ (by omega)]; exact h4 j x y, by rw [c _ _ (by omega)]; exact h5⟩, S'⟩
theorem t6_add2 {E1 E2 : List Ent} (hM : Mx w) (S : Std w t L d q st W) (H : T6 E1 E2 st) (s : ByteArray) (n : Int) (hs : s.size ≤ 1048576) :
    Calls Tryd.prog 16 #[.pointer (some ⟨L.v, 0, none⟩), .int .i64 2, .string s, .int .i64 n] W fun e W' => e = .returned (.bool (addB E2 s n)) ∧ ∃ st', T6 E1 (addE E2 s n) st' ∧ Std w t L d q st' W' := by
  obtain ⟨h1, h2, h3, h4, h5⟩ := H
  exact (d_add hM S h2 (by decide) (by decide) s n hs).mono fun e W' ⟨a, st', ⟨b, c⟩, S', _⟩ => ⟨a, st', ⟨dirAt_same h1 (c _ _ (by omega)), b, by unfold Holds; rw [c _ _ (by omega)]; exact h3, fun j x y => by rw [c _ _ (by omega)]; exact h4 j x y, by rw [c _ _ (by omega)]; exact h5⟩, S'⟩
end

def e1a : List Ent := [(⟨#[46]⟩, 1)]
def e1b : List Ent := [(⟨#[46]⟩, 1), (⟨#[46, 46]⟩, 1)]
def e2a : List Ent := [(⟨#[46]⟩, 2)]
def e2b : List Ent := [(⟨#[46]⟩, 2), (⟨#[46, 46]⟩, 1)]
theorem tree1 : addB [] ⟨#[46]⟩ 1 = true ∧ addE [] ⟨#[46]⟩ 1 = e1a := by decide +kernel
theorem tree2 : addB e1a ⟨#[46, 46]⟩ 1 = true ∧ addE e1a ⟨#[46, 46]⟩ 1 = e1b := by decide +kernel
theorem tree3 : addB e1b ⟨#[97]⟩ 2 = true ∧ addE e1b ⟨#[97]⟩ 2 = dirE 1 1 [(⟨#[97]⟩, 2)] := by decide +kernel
theorem tree4 : addB [] ⟨#[46]⟩ 2 = true ∧ addE [] ⟨#[46]⟩ 2 = e2a := by decide +kernel
theorem tree5 : addB e2a ⟨#[46, 46]⟩ 1 = true ∧ addE e2a ⟨#[46, 46]⟩ 1 = e2b := by decide +kernel
theorem tree6 : addB e2b ⟨#[98]⟩ 3 = true ∧ addE e2b ⟨#[98]⟩ 3 = dirE 2 1 [(⟨#[98]⟩, 3)] := by decide +kernel

attribute [local irreducible] Int.lt Int.le csN trN
set_option maxRecDepth 100000 in
set_option maxHeartbeats 4000000 in
theorem tree_any (w : World) (hM : Mx w) : Calls Tryd.prog 6 #[] w fun e W => ∃ t d q, ∃ L : Lay, e = .returned (.pointer (some ⟨t, 0, none⟩)) ∧ ∃ st, TREE st ∧ Std w t L d q st W := by
  go_enter Tryd.func6, Tryd.ntmps6
  go_wp2_with fail
  refine (s_newV _).mono ?_; rintro e W1 ⟨t, d, q, L, rfl, S1⟩
  have S1' : Std w t L d q (trN 0) W1 := by unfold trN; exact S1
  go_wp2_with fail
  have hB := blk_alloc_at W1 (Obj.cells #[Value.int .i64 1, Value.int .i64 1, Value.int .i64 2] 3) _ rfl
  have S2 := S1'.below (Below.alloc (Below.refl W1.heap.size W1) (Nat.le_refl _) (Obj.cells #[Value.int .i64 1, Value.int .i64 1, Value.int .i64 2] 3))
  generalize W1.alloc (Obj.cells #[Value.int .i64 1, Value.int .i64 1, Value.int .i64 2] 3) = W2 at *
  generalize W1.heap.size = B at *
  clear S1 S1'
  go_loopw [12] (fun k wr => ∃ j : Nat, j ≤ 3 ∧ k = .int .i64 (j : Int) ∧ Std w t L d q (trN j) wr ∧ blk wr B = some (Obj.cells #[Value.int .i64 1, Value.int .i64 1, Value.int .i64 2] 3)) (fun k _ => 3 - (intOf k).toNat)
  case atStart => exact ⟨0, by omega, rfl, S2, hB⟩
  case round =>
    clear S2 hB
    obtain ⟨j, j1, rfl, S3, hB⟩ := hrel
    have c3 := S3.cell
    have b0 := cell_of_row wr B 0 _ _ _ hB
    have b1 := cell_of_row wr B 1 _ _ _ hB
    have b2 := cell_of_row wr B 2 _ _ _ hB
    simp at b0 b1 b2
    have hj : j = 0 ∨ j = 1 ∨ j = 2 ∨ j = 3 := by omega
    rcases hj with rfl | rfl | rfl | rfl
    case' inl =>
      have ha := tr_alloc 0 (by decide) S3
      rw [show trT 0 = 1 from rfl] at ha
    case' inr.inl =>
      have ha := tr_alloc 1 (by decide) S3
      rw [show trT 1 = 1 from rfl] at ha
    case' inr.inr.inl =>
      have ha := tr_alloc 2 (by decide) S3
      rw [show trT 2 = 2 from rfl] at ha
    case' inr.inr.inr =>
      have S4 : Std w t L d q (trN 3) wr := S3
      have H4 := tr_done
      generalize trN 3 = st4 at *
      have d1 := fun {W} {st} (S : Std w t L d q st W) (H : T6 [] [] st) => t6_add1 hM S H ⟨#[46]⟩ 1 (by decide)
      have d2 := fun {W} {st} (S : Std w t L d q st W) (H : T6 e1a [] st) => t6_add1 hM S H ⟨#[46, 46]⟩ 1 (by decide)
      have d3 := fun {W} {st} (S : Std w t L d q st W) (H : T6 e1b [] st) => t6_add1 hM S H ⟨#[97]⟩ 2 (by decide)
      have d4 := fun {W} {st} {E} (S : Std w t L d q st W) (H : T6 E [] st) => t6_add2 hM S H ⟨#[46]⟩ 2 (by decide)
      have d5 := fun {W} {st} {E} (S : Std w t L d q st W) (H : T6 E e2a st) => t6_add2 hM S H ⟨#[46, 46]⟩ 1 (by decide)
      have d6 := fun {W} {st} {E} (S : Std w t L d q st W) (H : T6 E e2b st) => t6_add2 hM S H ⟨#[98]⟩ 3 (by decide)
      simp only [tree1.1, tree1.2, tree2.1, tree2.2, tree3.1, tree3.2, tree4.1, tree4.2, tree5.1, tree5.2, tree6.1, tree6.2] at d1 d2 d3 d4 d5 d6
      clear S3 hB b0 b1 b2
      go_wp2_with fail
      refine (d1 S4 H4).mono ?_; rintro e W5 ⟨rfl, st5, H5, S5⟩
      have c5 := S5.cell
      clear S4 H4 c3 d1
      go_wp2_with fail
      refine (d2 S5 H5).mono ?_; rintro e W6 ⟨rfl, st6, H6, S6⟩
      have c6 := S6.cell
      clear S5 H5 c5 d2
      go_wp2_with fail
      refine (d3 S6 H6).mono ?_; rintro e W7 ⟨rfl, st7, H7, S7⟩
      have c7 := S7.cell
      clear S6 H6 c6 d3
      go_wp2_with fail
      refine (d4 S7 H7).mono ?_; rintro e W8 ⟨rfl, st8, H8, S8⟩
      have c8 := S8.cell
      clear S7 H7 c7 d4
      go_wp2_with fail
      refine (d5 S8 H8).mono ?_; rintro e W9 ⟨rfl, st9, H9, S9⟩
      have c9 := S9.cell
      clear S8 H8 c8 d5
      go_wp2_with fail
      refine (d6 S9 H9).mono ?_; rintro e Wa ⟨rfl, sta, Ha, Sa⟩
      clear S9 H9 c9 d6
      go_wp2_with fail
      go_ret
      exact ⟨t, d, q, L, rfl, sta, Ha, Sa⟩
    all_goals
      go_wp2_with fail
      refine ha.mono ?_; rintro e W5 ⟨rfl, S5, t5⟩
      have hB5 := S3.other t5 hB
      clear S3 hB b0 b1 b2 c3 ha t5
      go_wp2_with fail
      first
        | exact ⟨⟨1, by omega, rfl, S5, hB5⟩, by decide⟩
        | exact ⟨⟨2, by omega, rfl, S5, hB5⟩, by decide⟩
        | exact ⟨⟨3, by omega, rfl, S5, hB5⟩, by decide⟩
end Go.Proofs.YtcefigpdodlonaaDoor.St
