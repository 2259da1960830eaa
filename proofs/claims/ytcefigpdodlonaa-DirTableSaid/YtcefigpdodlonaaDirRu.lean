/- Chapter 11's runs. No condition but those written in each statement. -/
import Derived.Test.YtcefigpdodlonaaDirE
import Derived.Test.YtcefigpdodlonaaNmF
import Derived.Deep.RegionHeld3
import Derived.Deep.DrawnRows
namespace Go.Proofs.Ytcefigpdodlonaa.St
open Go.RowKit
set_option linter.unusedVariables false

/-- A new store, its view: nothing is in them. -/
theorem s_newV (w : World) : Calls Try.prog 7 #[.slice none 0 0] w fun e W => ∃ t d q, ∃ L : Lay, e = .returned (.pointer (some ⟨t, 0, none⟩)) ∧ Std w t L d q (csN 0) W :=
  (tnew_nil w).mono fun e W ⟨t, d, q, L, he, a, b, c, e', _, _, _, _, _, gr, gm⟩ => ⟨t, d, q, L, he, ⟨b, a, e', gr, gm⟩⟩
section
variable {w W : World} {t : Nat} {L : Lay} {d q : Nat} {st : VSt}

theorem s_mkdir (S : Std w t L d q (csN 0) W) : Calls Try.prog 8 #[.pointer (some ⟨L.v, 0, none⟩), .int .i64 1] W fun e W' => e = .returned (.tuple #[.int .i64 1, .bool true]) ∧ ∃ st', DirAt st' 1 [] ∧ Std w t L d q st' W' := by
  have hf : iFree (csN 0) = 1 := cs_free 0 (by decide)
  have h := s_alloc S 1
  have hd := dirAt_new (csN 0) (by omega) (by omega)
  rw [hf] at hd
  rw [show iGot (csN 0) = 1 by unfold iGot; rw [hf]; decide, hf] at h
  exact h.mono fun e W' ⟨a, b, _⟩ => ⟨a, _, hd, b⟩
theorem q_add {es : List Ent} (hM : Mx w) (S : Std w t L d q st W) (H : DirAt st 1 es) (s : ByteArray) (n : Int) (hs : s.size ≤ 1048576) :
    Calls Try.prog 9 #[.pointer (some ⟨L.v, 0, none⟩), .int .i64 1, .string s, .int .i64 n] W fun e W' => e = .returned (.bool (addB es s n)) ∧ ∃ st', DirAt st' 1 (addE es s n) ∧ Std w t L d q st' W' :=
  (d_add hM S H (by decide) (by decide) s n hs).mono fun e W' ⟨a, st', ⟨b, _⟩, c, _⟩ => ⟨a, st', b, c⟩
theorem q_rem {es : List Ent} (hM : Mx w) (S : Std w t L d q st W) (H : DirAt st 1 es) (s : ByteArray) (hs : s.size ≤ 1048576) :
    Calls Try.prog 10 #[.pointer (some ⟨L.v, 0, none⟩), .int .i64 1, .string s] W fun e W' => e = .returned (.bool (remB es s)) ∧ ∃ st', DirAt st' 1 (remE es s) ∧ Std w t L d q st' W' :=
  (d_rem hM S H (by decide) (by decide) s hs).mono fun e W' ⟨a, st', ⟨b, _⟩, c, _⟩ => ⟨a, st', b, c⟩
theorem q_find {es : List Ent} (hM : Mx w) (S : Std w t L d q st W) (H : DirAt st 1 es) (s : ByteArray) (hs : s.size ≤ 1048576) :
    Calls Try.prog 11 #[.pointer (some ⟨L.v, 0, none⟩), .int .i64 1, .string s] W fun e W' => e = .returned (.tuple #[.int .i64 (fndN es s), .bool (fndB es s)]) ∧ ∃ st', DirAt st' 1 es ∧ Std w t L d q st' W' :=
  (d_find hM S H (by decide) (by decide) s hs).mono fun e W' ⟨a, st', b, c, _⟩ => ⟨a, st', dirAt_same H (b _ _), c⟩
theorem q_names {es : List Ent} (hM : Mx w) (S : Std w t L d q st W) (H : DirAt st 1 es) :
    Calls Try.prog 13 #[.pointer (some ⟨L.v, 0, none⟩), .int .i64 1] W fun e W' => ∃ v, e = .returned v ∧ TL W.heap.size W' v (namesE es) ∧ ∃ st', DirAt st' 1 es ∧ Std w t L d q st' W' :=
  (d_names hM S H (by decide) (by decide)).mono fun e W' ⟨v, a, o, st', b, c, _⟩ => ⟨v, a, o, st', dirAt_same H (b _ _), c⟩

def aB : ByteArray := ⟨#[97]⟩
def bB : ByteArray := ⟨#[98]⟩
def cB : ByteArray := ⟨#[99]⟩
def dz1 : List Ent := [(⟨#[97]⟩, 3)]
def dz2 : List Ent := [(⟨#[97]⟩, 3), (⟨#[98]⟩, 4)]
def dz3 : List Ent := [(⟨#[]⟩, 0), (⟨#[98]⟩, 4)]
def dz4 : List Ent := [(⟨#[99]⟩, 5), (⟨#[98]⟩, 4)]
theorem drun1 : addB [] ⟨#[97]⟩ 3 = true ∧ addE [] ⟨#[97]⟩ 3 = dz1 := by decide +kernel
theorem drun2 : addB dz1 ⟨#[98]⟩ 4 = true ∧ addE dz1 ⟨#[98]⟩ 4 = dz2 := by decide +kernel
theorem drun3 : remB dz2 ⟨#[97]⟩ = true ∧ remE dz2 ⟨#[97]⟩ = dz3 := by decide +kernel
theorem drun4 : addB dz3 ⟨#[99]⟩ 5 = true ∧ addE dz3 ⟨#[99]⟩ 5 = dz4 := by decide +kernel
theorem drun5 : fndB dz4 ⟨#[97]⟩ = false ∧ fndB dz4 ⟨#[98]⟩ = true ∧ fndN dz4 ⟨#[98]⟩ = 4 ∧ namesE dz4 = [⟨#[99]⟩, ⟨#[98]⟩] ∧ addB dz4 ⟨#[98]⟩ 6 = false := by decide +kernel
end

attribute [local irreducible] Int.lt Int.le csN
attribute [local go_sem ↓] Go.wp_at_zero Go.wp_at_succ
set_option maxRecDepth 100000 in
set_option maxHeartbeats 4000000 in
theorem druns_any (w : World) (hM : Mx w) : Calls Try.prog 3 #[] w fun e w' => e = .returned (.bool true) ∧ Below w.heap.size w w' := by
  go_enter Try.func3, Try.ntmps3
  go_wp2_with fail
  refine (s_newV _).mono ?_; rintro e W1 ⟨t, d, q, L, rfl, S1⟩
  have c1 := S1.cell
  go_wp2_with fail
  refine (s_mkdir S1).mono ?_; rintro e W2 ⟨rfl, st2, H2, S2⟩
  clear S1 c1
  have c2 := S2.cell
  go_wp2_with fail
  have cd : W2.drew.cell? ⟨t, 1, none⟩ = some (.pointer (some ⟨L.v, 0, none⟩)) := S2.drew.cell
  have Sd := S2.drew
  clear S2 c2
  go_region_held3 (fun W => W.cell? ⟨t, 1, none⟩ = some (.pointer (some ⟨L.v, 0, none⟩)))
    (assumption)
    (first
    | (go_at_call 9; refine (q_add hM (by assumption) (by assumption) _ _ (by decide)).mono ?_; rintro e W3 ⟨rfl, st3, H3, S3⟩; have c3 := S3.cell)
    | (go_at_call 10; refine (q_rem hM (by assumption) (by assumption) _ (by decide)).mono ?_; rintro e W3 ⟨rfl, st3, H3, S3⟩; have c3 := S3.cell))
  clear Sd cd H2
  simp only [drun1.1, drun1.2, drun2.1, drun2.2, drun3.1, drun3.2, drun4.1, drun4.2] at H3 ⊢
  have b3 := fun {W} {st} (S : Std w t L d q st W) (H : DirAt st 1 dz4) => q_find hM S H ⟨#[97]⟩ (by decide)
  have b4 := fun {W} {st} (S : Std w t L d q st W) (H : DirAt st 1 dz4) => q_find hM S H ⟨#[98]⟩ (by decide)
  have b5 := fun {W} {st} (S : Std w t L d q st W) (H : DirAt st 1 dz4) => q_names hM S H
  have b6 := fun {W} {st} (S : Std w t L d q st W) (H : DirAt st 1 dz4) => q_add hM S H ⟨#[98]⟩ 6 (by decide)
  simp only [drun5.1, drun5.2.1, drun5.2.2.1, drun5.2.2.2.1, drun5.2.2.2.2] at b3 b4 b5 b6
  go_wp2_with fail
  refine (b3 S3 H3).mono ?_; rintro e W4 ⟨rfl, st4, H4, S4⟩
  have c4 := S4.cell
  clear b3 S3 H3 c3
  go_wp2_with fail
  refine (b4 S4 H4).mono ?_; rintro e W5 ⟨rfl, st5, H5, S5⟩
  have c5 := S5.cell
  clear b4 S4 H4 c4
  go_wp2_with fail
  refine (b5 S5 H5).mono ?_; rintro e W6 ⟨v, rfl, own, st6, H6, S6⟩
  obtain ⟨a, c, rfl, tr, _⟩ := own.tr
  clear b5 S5 H5 c5 own
  go_wp2_with fail
  have bA : Below W6.heap.size W6 (W6.alloc (Obj.cells #[Value.string ⟨#[99]⟩, Value.string ⟨#[98]⟩] 9)) := (Below.refl _ _).alloc (Nat.le_refl _) _
  have tr2 : TR (W6.alloc (Obj.cells #[Value.string ⟨#[99]⟩, Value.string ⟨#[98]⟩] 9)) (some ⟨W6.heap.size, 0, none⟩) [⟨#[99]⟩, ⟨#[98]⟩] := by
    intro i hi
    refine ⟨_, rfl, ?_⟩
    have hb := blk_alloc_at W6 (Obj.cells #[Value.string ⟨#[99]⟩, Value.string ⟨#[98]⟩] 9) _ rfl
    match i, hi with
    | 0, _ => exact cell_of_row _ _ 0 _ _ _ hb
    | 1, _ => exact cell_of_row _ _ 1 _ _ _ hb
  refine (sameT_yes a _ c 2 [⟨#[99]⟩, ⟨#[98]⟩] _ (by decide) (tr.below bA) tr2).mono ?_; rintro e W7 ⟨rfl, t7⟩
  have S7 := (S6.below bA).below t7
  have c7 := S7.cell
  clear S6 bA tr tr2 t7
  go_wp2_with fail
  refine (b6 S7 H6).mono ?_; rintro e W8 ⟨rfl, st8, H8, S8⟩
  go_wp2_with fail
  go_ret
  exact ⟨rfl, S8.b⟩
theorem dirRuns_walk (w : World) (hM : Mx w) : Calls Try.prog 3 #[] w fun e w' => e = .returned (.bool true) ∧ Below w.heap.size w w' := druns_any w hM
end Go.Proofs.Ytcefigpdodlonaa.St
