/- Chapter 12's runs. No condition but those written in each statement. -/
import Derived.Test.YtcefigpdodlonaaDoorPatD
namespace Go.Proofs.YtcefigpdodlonaaDoor.St
open Go.RowKit
set_option linter.unusedVariables false

theorem walk_step {st : VSt} {a n : Int} {s : ByteArray} {l : List ByteArray} (h : fndB (dEnts st a) s = true) (hn : fndN (dEnts st a) s = n) (hi : iHas st n = true) : walkE st a (s :: l) = walkE st n l := by
  rw [walkE, hn, if_pos ⟨h, hi⟩]
theorem walk_stop {st : VSt} {a : Int} {s : ByteArray} {l : List ByteArray} (h : fndB (dEnts st a) s = false) : walkE st a (s :: l) = none := by
  rw [walkE, if_neg (fun q => by rw [h] at q; exact absurd q.1 (by decide))]
theorem TREE.facts {st : VSt} (H : TREE st) : dEnts st 1 = dirE 1 1 [(⟨#[97]⟩, 2)] ∧ dEnts st 2 = dirE 2 1 [(⟨#[98]⟩, 3)] ∧ iHas st 1 = true ∧ iHas st 2 = true ∧ iHas st 3 = true ∧ (iVal st 2).n 0 = 1 :=
  ⟨(dirAt_val H.1 (by decide) (by decide)).2.2.2.1, (dirAt_val H.2.1 (by decide) (by decide)).2.2.2.1, H.gt.has_in (by decide) (by decide), H.gt.has_in (by decide) (by decide), H.gt.has_in (by decide) (by decide), (dirAt_val H.2.1 (by decide) (by decide)).1⟩
theorem s1 : splOk [47, 97, 47, 98] = true ∧ splB [47, 97, 47, 98] = true ∧ splN [47, 97, 47, 98] = [⟨#[97]⟩, ⟨#[98]⟩] := by decide +kernel
theorem s2 : splOk [98] = true ∧ splB [98] = false ∧ splN [98] = [⟨#[98]⟩] := by decide +kernel
theorem s3 : splOk [47, 97, 47, 99] = true ∧ splB [47, 97, 47, 99] = true ∧ splN [47, 97, 47, 99] = [⟨#[97]⟩, ⟨#[99]⟩] := by decide +kernel
theorem s4 : splOk [47] = true ∧ splB [47] = true ∧ splN [47] = [] := by decide +kernel
theorem f1 : fndB (dirE 1 1 [(⟨#[97]⟩, 2)]) ⟨#[97]⟩ = true ∧ fndN (dirE 1 1 [(⟨#[97]⟩, 2)]) ⟨#[97]⟩ = 2 := by decide +kernel
theorem f2 : fndB (dirE 2 1 [(⟨#[98]⟩, 3)]) ⟨#[98]⟩ = true ∧ fndN (dirE 2 1 [(⟨#[98]⟩, 3)]) ⟨#[98]⟩ = 3 := by decide +kernel
theorem f3 : fndB (dirE 2 1 [(⟨#[98]⟩, 3)]) ⟨#[99]⟩ = false := by decide +kernel

section
variable {st : VSt}
theorem r1 (H : TREE st) : pWalk st 1 ⟨#[47, 97, 47, 98]⟩ = some 3 := by
  obtain ⟨e1, e2, h1, h2, h3, _⟩ := H.facts
  unfold pWalk
  rw [show (ByteArray.mk #[47, 97, 47, 98]).data.toList = [47, 97, 47, 98] from rfl, s1.1, s1.2.1, s1.2.2, if_pos rfl, if_pos rfl]
  unfold walkO
  rw [h1, if_pos rfl, walk_step (by rw [e1]; exact f1.1) (by rw [e1]; exact f1.2) h2, walk_step (by rw [e2]; exact f2.1) (by rw [e2]; exact f2.2) h3]; rfl
theorem r2 (H : TREE st) : pWalk st 2 ⟨#[98]⟩ = some 3 := by
  obtain ⟨e1, e2, h1, h2, h3, _⟩ := H.facts
  unfold pWalk
  rw [show (ByteArray.mk #[98]).data.toList = [98] from rfl, s2.1, s2.2.1, s2.2.2, if_pos rfl, if_neg (by decide)]
  unfold walkO
  rw [h2, if_pos rfl, walk_step (by rw [e2]; exact f2.1) (by rw [e2]; exact f2.2) h3]; rfl
theorem r3 (H : TREE st) : pPar st 1 ⟨#[47, 97, 47, 99]⟩ = some (2, ⟨#[99]⟩) := by
  obtain ⟨e1, e2, h1, h2, h3, h4⟩ := H.facts
  unfold pPar
  rw [show (ByteArray.mk #[47, 97, 47, 99]).data.toList = [47, 97, 47, 99] from rfl, s3.1, s3.2.1, s3.2.2, if_pos rfl, if_pos rfl]
  have hw : walkO st 1 [⟨#[97]⟩] = some 2 := by
    unfold walkO
    rw [h1, if_pos rfl, walk_step (by rw [e1]; exact f1.1) (by rw [e1]; exact f1.2) h2]; rfl
  unfold pParE
  show (match walkO st 1 [⟨#[97]⟩] with | none => none | some y => if (iVal st y).n 0 = 1 then some (y, (⟨#[99]⟩ : ByteArray)) else none) = _
  rw [hw]
  show (if (iVal st 2).n 0 = 1 then some ((2 : Int), (⟨#[99]⟩ : ByteArray)) else none) = _
  rw [h4, if_pos rfl]
theorem r4 (H : TREE st) : pWalk st 1 ⟨#[47, 97, 47, 99]⟩ = none := by
  obtain ⟨e1, e2, h1, h2, h3, _⟩ := H.facts
  unfold pWalk
  rw [show (ByteArray.mk #[47, 97, 47, 99]).data.toList = [47, 97, 47, 99] from rfl, s3.1, s3.2.1, s3.2.2, if_pos rfl, if_pos rfl]
  unfold walkO
  rw [h1, if_pos rfl, walk_step (by rw [e1]; exact f1.1) (by rw [e1]; exact f1.2) h2, walk_stop (by rw [e2]; exact f3)]
theorem r5 : pPar st 1 ⟨#[47]⟩ = none := by
  unfold pPar
  rw [show (ByteArray.mk #[47]).data.toList = [47] from rfl, s4.1, s4.2.1, s4.2.2, if_pos rfl, if_pos rfl]; rfl
end
section
variable {w W : World} {t : Nat} {L : Lay} {d q : Nat} {st : VSt}
theorem q_walk (hM : Mx w) (S : Std w t L d q st W) (H : TREE st) (i : Int) (s : ByteArray) (hs : s.size ≤ 500000) : Calls Tryd.prog 7 #[.pointer (some ⟨L.v, 0, none⟩), .int .i64 i, .string s] W fun e W' => e = .returned (.tuple #[.int .i64 ((pWalk st i s).getD 0), .bool (pWalk st i s).isSome]) ∧ ∃ st', TREE st' ∧ Std w t L d q st' W' :=
  (s_Walk hM S H.gt.sm i s hs).mono fun e W' ⟨a, b, _⟩ => ⟨a, _, H.same (fun k n => pWalkV_get _ _ _ _ _), b⟩
theorem q_par (hM : Mx w) (S : Std w t L d q st W) (H : TREE st) (i : Int) (s : ByteArray) (hs : s.size ≤ 500000) : Calls Tryd.prog 8 #[.pointer (some ⟨L.v, 0, none⟩), .int .i64 i, .string s] W fun e W' => e = .returned (.tuple #[.int .i64 ((pPar st i s).getD (0, ⟨#[]⟩)).1, .string ((pPar st i s).getD (0, ⟨#[]⟩)).2, .bool (pPar st i s).isSome]) ∧ ∃ st', TREE st' ∧ Std w t L d q st' W' :=
  (s_Parent hM S H.gt.sm i s hs).mono fun e W' ⟨a, b, _⟩ => ⟨a, _, H.same (fun k n => pParV_get _ _ _ _ _), b⟩
end

attribute [local irreducible] Int.lt Int.le csN trN
set_option maxRecDepth 100000 in
set_option maxHeartbeats 4000000 in
theorem pathRuns_any (w : World) (hM : Mx w) : Calls Tryd.prog 3 #[] w fun e w' => e = .returned (.bool true) ∧ Below w.heap.size w w' := by
  have b1 := fun {W t L d q st} (S : Std w t L d q st W) (H : TREE st) => q_walk hM S H 1 ⟨#[47, 97, 47, 98]⟩ (by decide)
  have b2 := fun {W t L d q st} (S : Std w t L d q st W) (H : TREE st) => q_walk hM S H 2 ⟨#[98]⟩ (by decide)
  have b3 := fun {W t L d q st} (S : Std w t L d q st W) (H : TREE st) => q_par hM S H 1 ⟨#[47, 97, 47, 99]⟩ (by decide)
  have b4 := fun {W t L d q st} (S : Std w t L d q st W) (H : TREE st) => q_walk hM S H 1 ⟨#[47, 97, 47, 99]⟩ (by decide)
  have b5 := fun {W t L d q st} (S : Std w t L d q st W) (H : TREE st) => q_par hM S H 1 ⟨#[47]⟩ (by decide)
  go_enter Tryd.func3, Tryd.ntmps3
  go_wp2_with fail
  refine (tree_any _ hM).mono ?_; rintro e W1 ⟨t, d, q, L, rfl, st1, H1, S1⟩
  have c1 := S1.cell
  have b1' := b1 S1 H1
  rw [r1 H1] at b1'
  simp only [Option.getD_some, Option.isSome_some] at b1'
  clear b1
  go_wp2_with fail
  refine b1'.mono ?_; rintro e W2 ⟨rfl, st2, H2, S2⟩
  have c2 := S2.cell
  have b2' := b2 S2 H2
  rw [r2 H2] at b2'
  simp only [Option.getD_some, Option.isSome_some] at b2'
  clear b2 b1' S1 H1 c1
  go_wp2_with fail
  refine b2'.mono ?_; rintro e W3 ⟨rfl, st3, H3, S3⟩
  have c3 := S3.cell
  have b3' := b3 S3 H3
  rw [r3 H3] at b3'
  simp only [Option.getD_some, Option.isSome_some] at b3'
  clear b3 b2' S2 H2 c2
  go_wp2_with fail
  refine b3'.mono ?_; rintro e W4 ⟨rfl, st4, H4, S4⟩
  have c4 := S4.cell
  have b4' := b4 S4 H4
  rw [r4 H4] at b4'
  simp only [Option.getD_none, Option.isSome_none] at b4'
  clear b4 b3' S3 H3 c3
  go_wp2_with fail
  refine b4'.mono ?_; rintro e W5 ⟨rfl, st5, H5, S5⟩
  have c5 := S5.cell
  have b5' := b5 S5 H5
  rw [r5] at b5'
  simp only [Option.getD_none, Option.isSome_none] at b5'
  clear b5 b4' S4 H4 c4
  go_wp2_with fail
  refine b5'.mono ?_; rintro e W6 ⟨rfl, st6, H6, S6⟩
  clear b5' S5 H5 c5
  go_wp2_with fail
  go_ret
  exact ⟨rfl, S6.b⟩
theorem pathRuns_walk (w : World) (hM : Mx w) : Calls Tryd.prog 3 #[] w fun e w' => e = .returned (.bool true) ∧ Below w.heap.size w w' := pathRuns_any w hM
end Go.Proofs.YtcefigpdodlonaaDoor.St
