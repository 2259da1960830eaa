/- The two stores and a view, as one fact that each call keeps; the contracts of inode in that form. No condition but those written in each statement. -/
import Derived.Test.YtfcgkjbifnhjjaaGreatDoorQ4
import Derived.Test.YtfcgkjbifnhjjaaGreatDoorQ10
import Derived.Test.YtfcgkjbifnhjjaaGreatDoorQ3
import Derived.Laws.MakeOwn
import Derived.Laws.BytesString
import Derived.LoopTactic
import Derived.OwnWalk
namespace Go.Proofs.YtfcgkjbifnhjjaaGreatDoor.St
open Go.RowKit
set_option linter.unusedVariables false

structure Std (w : World) (t : Nat) (L : Lay) (d q : Nat) (st : VSt) (W : World) : Prop where
  v : ViewAt W L st
  t : TwoAt W t L.s L.v d q
  b : Below w.heap.size w W
  r : w.heap.size ≤ L.r
  m : w.heap.size ≤ L.m

abbrev Maps (L : Lay) (W W' : World) : Prop := Turn (fun k => k = L.r ∨ k = L.m) W W'

theorem Std.cell {w W : World} {t : Nat} {L : Lay} {d q : Nat} {st : VSt} (S : Std w t L d q st W) : W.cell? ⟨t, 1, none⟩ = some (.pointer (some ⟨L.v, 0, none⟩)) := by
  have c := cell_of_row W t 1 _ _ _ S.t
  simpa using c

theorem Std.other {w W W' : World} {t : Nat} {L : Lay} {d q : Nat} {st : VSt} (S : Std w t L d q st W) (h : Maps L W W') {b : Nat} {c : Array Value} {ty : TypeId} {fz : Nat × Nat} (hT : blk W b = some (.cells c ty fz)) : blk W' b = some (.cells c ty fz) := by
  obtain ⟨_, _, hr, _⟩ := S.v.cr
  obtain ⟨_, _, hm, _⟩ := S.v.cm
  have n1 := cells_ne_map hT hr
  have n2 := cells_ne_map hT hm
  exact blk_of_turn h hT (by omega)

theorem Std.step {w W W' : World} {t : Nat} {L : Lay} {d q : Nat} {st st' : VSt} (S : Std w t L d q st W) (hv : ViewAt W' L st') (h : Maps L W W') : Std w t L d q st' W' :=
  ⟨hv, S.other h S.t, S.b.trans (h.below (B := w.heap.size) S.b.size (fun i p => by have := S.r; have := S.m; omega)), S.r, S.m⟩

/-- Nothing that stands is touched. -/
theorem Std.below {w W W' : World} {t : Nat} {L : Lay} {d q : Nat} {st : VSt} (S : Std w t L d q st W) (h : Below W.heap.size W W') : Std w t L d q st W' :=
  ⟨S.v.below h, blk_below h S.t (blk_lt S.t), S.b.trans (h.mono S.b.size), S.r, S.m⟩
theorem Std.drewN {w W : World} {t : Nat} {L : Lay} {d q : Nat} {st : VSt} (S : Std w t L d q st W) (n : Nat) : Std w t L d q st (W.drewN n) :=
  ⟨S.v.drewN n, (blk_drewN _ _ _).trans S.t, below_drewN S.b n, S.r, S.m⟩
theorem Std.drew {w W : World} {t : Nat} {L : Lay} {d q : Nat} {st : VSt} (S : Std w t L d q st W) : Std w t L d q st W.drew := S.drewN 1

section
variable {w W : World} {t : Nat} {L : Lay} {d q : Nat} {st : VSt}

theorem s_alloc (S : Std w t L d q st W) (x : Int) : Calls Tryz.prog 99 #[.pointer (some ⟨L.v, 0, none⟩), .int .i64 x] W fun e W' => e = .returned (.tuple #[.int .i64 (iGot st), .bool (decide (iFree st < 16))]) ∧ Std w t L d q (iAlloc st x) W' ∧ Maps L W W' :=
  (ialloc_any L st x W S.v).mono fun e W' ⟨a, b, c⟩ => ⟨a, S.step b c, c⟩
theorem s_is (S : Std w t L d q st W) (i : Int) : Calls Tryz.prog 88 #[.pointer (some ⟨L.v, 0, none⟩), .int .i64 i] W fun e W' => e = .returned (.bool (iHas st i)) ∧ Std w t L d q (iSaw st i) W' ∧ Maps L W W' :=
  (iis_any L st i W S.v).mono fun e W' ⟨a, b, c⟩ => ⟨a, S.step b (c.mono fun _ _ => Or.inl), c.mono fun _ _ => Or.inl⟩
theorem s_type (S : Std w t L d q st W) {i t' l h : Int} {s : ByteArray} (H : Holds st i t' l h s) (ht : t' ≠ 0) (h1 : 1 ≤ i) (h2 : i < 16) : Calls Tryz.prog 93 #[.pointer (some ⟨L.v, 0, none⟩), .int .i64 i] W fun e W' => e = .returned (.int .i64 t') ∧ Std w t L d q (iSaw st i) W' ∧ Maps L W W' :=
  (htype L H ht h1 h2 W S.v).mono fun e W' ⟨a, b, c⟩ => ⟨a, S.step b (c.mono fun _ _ => Or.inl), c.mono fun _ _ => Or.inl⟩
theorem s_size (S : Std w t L d q st W) (i : Int) : Calls Tryz.prog 125 #[.pointer (some ⟨L.v, 0, none⟩), .int .i64 i] W fun e W' => e = .returned (.int .i64 (iVal st i).s.size) ∧ Std w t L d q (iSaw st i) W' ∧ Maps L W W' :=
  (isize_any L st i W S.v).mono fun e W' ⟨a, b, c⟩ => ⟨a, S.step b (c.mono fun _ _ => Or.inl), c.mono fun _ _ => Or.inl⟩
theorem s_read (S : Std w t L d q st W) (i off n : Int) (hs : ((iVal st i).s.size : Int) ≤ 140737488351232) : Calls Tryz.prog 133 #[.pointer (some ⟨L.v, 0, none⟩), .int .i64 i, .int .i64 off, .int .i64 n] W fun e W' => e = .returned (.string (iRead st i off n)) ∧ Std w t L d q (iSaw st i) W' ∧ Maps L W W' :=
  (iread_any L st i off n hs W S.v).mono fun e W' ⟨a, b, c⟩ => ⟨a, S.step b (c.mono fun _ _ => Or.inl), c.mono fun _ _ => Or.inl⟩
theorem s_write (S : Std w t L d q st W) (i off : Int) (D : ByteArray) (hs : ((iVal st i).s.size : Int) ≤ 140737488351232) (hd : (D.size : Int) ≤ 140737488351232) : Calls Tryz.prog 126 #[.pointer (some ⟨L.v, 0, none⟩), .int .i64 i, .int .i64 off, .string D] W fun e W' => e = .returned (.int .i64 (iWrote st i off D)) ∧ Std w t L d q (iWrite st i off D) W' ∧ Maps L W W' :=
  (iwrite_any L st i off D hs hd W S.v).mono fun e W' ⟨a, b, c⟩ => ⟨a, S.step b c, c⟩
end
end Go.Proofs.YtfcgkjbifnhjjaaGreatDoor.St
