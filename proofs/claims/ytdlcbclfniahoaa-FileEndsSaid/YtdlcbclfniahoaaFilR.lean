/- The contracts of file in the form that each call keeps the stores; FileRuns. No condition but those written in each statement. -/
import Derived.Test.YtdlcbclfniahoaaFilC
namespace Go.Proofs.Ytdlcbclfniahoaa.St
open Go.RowKit
set_option linter.unusedVariables false

section
variable {w W : World} {t : Nat} {L : Lay} {d q : Nat} {st : VSt}
theorem sf_open (S : Std w t L d q st W) (k x m : Int) : Calls Try.prog 11 #[.pointer (some ⟨L.v, 0, none⟩), .int .i64 k, .int .i64 x, .int .i64 m] W fun e W' => e = .returned (.tuple #[.int .i64 (fNum st), .bool (decide (fFree st < 12))]) ∧ Std w t L d q (fOpen st k x m) W' ∧ Maps L W W' :=
  (fopen_any L st k x m W S.v).mono fun e W' ⟨a, b, c⟩ => ⟨a, S.step b c, c⟩
theorem sf_is (S : Std w t L d q st W) (f : Int) : Calls Try.prog 16 #[.pointer (some ⟨L.v, 0, none⟩), .int .i64 f] W fun e W' => e = .returned (.bool (fHas st f)) ∧ Std w t L d q (fSaw st f) W' ∧ Maps L W W' :=
  (fis_any L st f W S.v).mono fun e W' ⟨a, b, c⟩ => ⟨a, S.step b (c.mono fun _ _ => Or.inl), c.mono fun _ _ => Or.inl⟩
theorem sf_dup (S : Std w t L d q st W) (f : Int) : Calls Try.prog 13 #[.pointer (some ⟨L.v, 0, none⟩), .int .i64 f] W fun e W' => e = .returned (.bool (fHas st f)) ∧ Std w t L d q (fDup st f) W' ∧ Maps L W W' :=
  (fdup_any L st f W S.v).mono fun e W' ⟨a, b, c⟩ => ⟨a, S.step b c, c⟩
theorem sf_close (S : Std w t L d q st W) (f : Int) : Calls Try.prog 14 #[.pointer (some ⟨L.v, 0, none⟩), .int .i64 f] W fun e W' => e = .returned (.bool (fHas st f)) ∧ Std w t L d q (fClose st f) W' ∧ Maps L W W' :=
  (fclose_any L st f W S.v).mono fun e W' ⟨a, b, c⟩ => ⟨a, S.step b c, c⟩
theorem sf_links (S : Std w t L d q st W) (i : Int) : Calls Try.prog 18 #[.pointer (some ⟨L.v, 0, none⟩), .int .i64 i] W fun e W' => e = .returned (.int .i64 ((iVal st i).n 1)) ∧ Std w t L d q (iSaw st i) W' ∧ Maps L W W' :=
  (ilinks_any L st i W S.v).mono fun e W' ⟨a, b, c⟩ => ⟨a, S.step b (c.mono fun _ _ => Or.inl), c.mono fun _ _ => Or.inl⟩
end

def abcdefB : ByteArray := ⟨#[97, 98, 99, 100, 101, 102]⟩
def fz1 : VSt := iAlloc (csN 0) 2
def fz2 : VSt := iWrite fz1 1 0 abcdefB
def fz3 : VSt := iChange fz2 1 1 1
def fz4 : VSt := fOpen fz3 1 1 1
def fz5 : VSt := fRdV fz4 0 2
def fz6 : VSt := fRdV fz5 0 2
def fz7 : VSt := fDup fz6 0
def fz8 : VSt := fClose fz7 0
def fz9 : VSt := fRdV fz8 0 9
def fz10 : VSt := fGot fz9 0
def fz11 : VSt := fClose fz10 0
def fz12 : VSt := fSaw fz11 0
def fz13 : VSt := iSaw fz12 1

section
variable {w W : World} {t : Nat} {L : Lay} {d q : Nat}
theorem frun1 (S : Std w t L d q (csN 0) W) : Calls Try.prog 8 #[.pointer (some ⟨L.v, 0, none⟩), .int .i64 2] W fun e W' => e = .returned (.tuple #[.int .i64 1, .bool true]) ∧ Std w t L d q fz1 W' := by
  have h := s_alloc S 2
  rw [show iGot (csN 0) = 1 by kernel_rfl, show decide (iFree (csN 0) < 16) = true by kernel_rfl] at h
  exact h.mono fun e W' ⟨a, b, _⟩ => ⟨a, b⟩
theorem frun2 (S : Std w t L d q fz1 W) : Calls Try.prog 9 #[.pointer (some ⟨L.v, 0, none⟩), .int .i64 1, .int .i64 0, .string ⟨#[97, 98, 99, 100, 101, 102]⟩] W fun e W' => e = .returned (.int .i64 6) ∧ Std w t L d q fz2 W' := by
  have h := s_write S 1 0 abcdefB (by rw [show (iVal fz1 1).s.size = 0 by kernel_rfl]; decide) (by decide)
  rw [show iWrote fz1 1 0 abcdefB = 6 by kernel_rfl] at h
  exact h.mono fun e W' ⟨a, b, _⟩ => ⟨a, b⟩
theorem frun3 (S : Std w t L d q fz2 W) : Calls Try.prog 10 #[.pointer (some ⟨L.v, 0, none⟩), .int .i64 1, .int .i64 1, .int .i64 1] W fun e W' => e = .returned (.bool true) ∧ Std w t L d q fz3 W' := by
  have h := s_change S 1 1 1
  rw [show iHas fz2 1 = true by kernel_rfl] at h
  exact h.mono fun e W' ⟨a, b, _⟩ => ⟨a, b⟩
theorem frun4 (S : Std w t L d q fz3 W) : Calls Try.prog 11 #[.pointer (some ⟨L.v, 0, none⟩), .int .i64 1, .int .i64 1, .int .i64 1] W fun e W' => e = .returned (.tuple #[.int .i64 0, .bool true]) ∧ Std w t L d q fz4 W' := by
  have h := sf_open S 1 1 1
  rw [show fNum fz3 = 0 by kernel_rfl, show decide (fFree fz3 < 12) = true by kernel_rfl] at h
  exact h.mono fun e W' ⟨a, b, _⟩ => ⟨a, b⟩
theorem frd (st : VSt) (n : Int) (hn : 0 ≤ n) (h0 : fHas st 0 = true) (h1 : (bits .and .i64 ((st.get 6 0).n 4) 1 == 0) = false) (h2 : (st.get 6 0).n 0 = 1) (h3 : iHas (fs1 st 0) ((st.get 6 0).n 2) = true)
    (h4 : ((iVal (iSaw (fs1 st 0) ((st.get 6 0).n 2)) ((st.get 6 0).n 2)).n 0 == 3) = false) (h5 : (iVal (iSaw (iSaw (fs1 st 0) ((st.get 6 0).n 2)) ((st.get 6 0).n 2)) ((st.get 6 0).n 2)).s.size = 6) (S : Std w t L d q st W) :
    Calls Try.prog 12 #[.pointer (some ⟨L.v, 0, none⟩), .int .i64 0, .int .i64 n] W fun e W' => e = .returned (.tuple #[.string (fRd st 0 n), .int .i64 0]) ∧ Std w t L d q (fRdV st 0 n) W' :=
  (fread_file L st 0 n h0 hn h1 h2 h3 h4 (by rw [h5]; decide) W S.v).mono fun e W' ⟨a, b, c⟩ => ⟨a, S.step b c⟩
theorem frun5 (S : Std w t L d q fz4 W) : Calls Try.prog 12 #[.pointer (some ⟨L.v, 0, none⟩), .int .i64 0, .int .i64 2] W fun e W' => e = .returned (.tuple #[.string ⟨#[97, 98]⟩, .int .i64 0]) ∧ Std w t L d q fz5 W' := by
  have h := frd fz4 2 (by decide) (by kernel_rfl) (by kernel_rfl) (by kernel_rfl) (by kernel_rfl) (by kernel_rfl) (by kernel_rfl) S
  rw [show fRd fz4 0 2 = ⟨#[97, 98]⟩ by kernel_rfl] at h
  exact h
theorem frun6 (S : Std w t L d q fz5 W) : Calls Try.prog 12 #[.pointer (some ⟨L.v, 0, none⟩), .int .i64 0, .int .i64 2] W fun e W' => e = .returned (.tuple #[.string ⟨#[99, 100]⟩, .int .i64 0]) ∧ Std w t L d q fz6 W' := by
  have h := frd fz5 2 (by decide) (by kernel_rfl) (by kernel_rfl) (by kernel_rfl) (by kernel_rfl) (by kernel_rfl) (by kernel_rfl) S
  rw [show fRd fz5 0 2 = ⟨#[99, 100]⟩ by kernel_rfl] at h
  exact h
theorem frun7 (S : Std w t L d q fz6 W) : Calls Try.prog 13 #[.pointer (some ⟨L.v, 0, none⟩), .int .i64 0] W fun e W' => e = .returned (.bool true) ∧ Std w t L d q fz7 W' := by
  have h := sf_dup S 0
  rw [show fHas fz6 0 = true by kernel_rfl] at h
  exact h.mono fun e W' ⟨a, b, _⟩ => ⟨a, b⟩
theorem frun8 (S : Std w t L d q fz7 W) : Calls Try.prog 14 #[.pointer (some ⟨L.v, 0, none⟩), .int .i64 0] W fun e W' => e = .returned (.bool true) ∧ Std w t L d q fz8 W' := by
  have h := sf_close S 0
  rw [show fHas fz7 0 = true by kernel_rfl] at h
  exact h.mono fun e W' ⟨a, b, _⟩ => ⟨a, b⟩
theorem frun9 (S : Std w t L d q fz8 W) : Calls Try.prog 12 #[.pointer (some ⟨L.v, 0, none⟩), .int .i64 0, .int .i64 9] W fun e W' => e = .returned (.tuple #[.string ⟨#[101, 102]⟩, .int .i64 0]) ∧ Std w t L d q fz9 W' := by
  have h := frd fz8 9 (by decide) (by kernel_rfl) (by kernel_rfl) (by kernel_rfl) (by kernel_rfl) (by kernel_rfl) (by kernel_rfl) S
  rw [show fRd fz8 0 9 = ⟨#[101, 102]⟩ by kernel_rfl] at h
  exact h
theorem frun10 (S : Std w t L d q fz9 W) : Calls Try.prog 15 #[.pointer (some ⟨L.v, 0, none⟩), .int .i64 0, .string ⟨#[120]⟩] W fun e W' => e = .returned (.tuple #[.int .i64 (-1), .int .i64 1]) ∧ Std w t L d q fz10 W' :=
  (fwrite_bad L fz9 0 ⟨#[120]⟩ (.inr ⟨by kernel_rfl, by kernel_rfl⟩) W S.v).mono fun e W' ⟨a, b, c⟩ => ⟨a, S.step b c⟩
theorem frun11 (S : Std w t L d q fz10 W) : Calls Try.prog 14 #[.pointer (some ⟨L.v, 0, none⟩), .int .i64 0] W fun e W' => e = .returned (.bool true) ∧ Std w t L d q fz11 W' := by
  have h := sf_close S 0
  rw [show fHas fz10 0 = true by kernel_rfl] at h
  exact h.mono fun e W' ⟨a, b, _⟩ => ⟨a, b⟩
theorem frun12 (S : Std w t L d q fz11 W) : Calls Try.prog 16 #[.pointer (some ⟨L.v, 0, none⟩), .int .i64 0] W fun e W' => e = .returned (.bool false) ∧ Std w t L d q fz12 W' := by
  have h := sf_is S 0
  rw [show fHas fz11 0 = false by kernel_rfl] at h
  exact h.mono fun e W' ⟨a, b, _⟩ => ⟨a, b⟩
theorem frun13 (S : Std w t L d q fz12 W) : Calls Try.prog 17 #[.pointer (some ⟨L.v, 0, none⟩), .int .i64 1] W fun e W' => e = .returned (.bool true) ∧ Std w t L d q fz13 W' := by
  have h := s_is S 1
  rw [show iHas fz12 1 = true by kernel_rfl] at h
  exact h.mono fun e W' ⟨a, b, _⟩ => ⟨a, b⟩
theorem frun14 (S : Std w t L d q fz13 W) : Calls Try.prog 18 #[.pointer (some ⟨L.v, 0, none⟩), .int .i64 1] W fun e W' => e = .returned (.int .i64 1) ∧ Below w.heap.size w W' := by
  have h := sf_links S 1
  rw [show (iVal fz13 1).n 1 = 1 by kernel_rfl] at h
  exact h.mono fun e W' ⟨a, b, _⟩ => ⟨a, b.b⟩
end

set_option maxRecDepth 100000 in
theorem fruns_any (w : World) : Calls Try.prog 3 #[] w fun e w' => e = .returned (.bool true) ∧ Below w.heap.size w w' := by
  go_enter Try.func3, Try.ntmps3
  go_wp2_with fail
  refine (s_new _).mono ?_; rintro e W1 ⟨t, d, q, L, rfl, S1⟩
  have c1 := S1.cell
  go_wp2_with fail
  refine (frun1 S1).mono ?_; rintro e W2 ⟨rfl, S2⟩
  clear S1 c1
  go_wp2_with fail
  refine (frun2 S2).mono ?_; rintro e W3 ⟨rfl, S3⟩
  clear S2
  go_wp2_with fail
  refine (frun3 S3).mono ?_; rintro e W4 ⟨rfl, S4⟩
  clear S3
  go_wp2_with fail
  refine (frun4 S4).mono ?_; rintro e W5 ⟨rfl, S5⟩
  clear S4
  go_wp2_with fail
  refine (frun5 S5).mono ?_; rintro e W6 ⟨rfl, S6⟩
  clear S5
  go_wp2_with fail
  refine (frun6 S6).mono ?_; rintro e W7 ⟨rfl, S7⟩
  clear S6
  go_wp2_with fail
  refine (frun7 S7).mono ?_; rintro e W8 ⟨rfl, S8⟩
  clear S7
  go_wp2_with fail
  refine (frun8 S8).mono ?_; rintro e W9 ⟨rfl, S9⟩
  clear S8
  go_wp2_with fail
  refine (frun9 S9).mono ?_; rintro e W10 ⟨rfl, S10⟩
  clear S9
  go_wp2_with fail
  refine (frun10 S10).mono ?_; rintro e W11 ⟨rfl, S11⟩
  clear S10
  go_wp2_with fail
  refine (frun11 S11).mono ?_; rintro e W12 ⟨rfl, S12⟩
  clear S11
  go_wp2_with fail
  refine (frun12 S12).mono ?_; rintro e W13 ⟨rfl, S13⟩
  clear S12
  go_wp2_with fail
  refine (frun13 S13).mono ?_; rintro e W14 ⟨rfl, S14⟩
  clear S13
  go_wp2_with fail
  refine (frun14 S14).mono ?_; rintro e Wf ⟨rfl, bf⟩
  clear S14
  go_wp2_with fail
  go_ret
  exact ⟨rfl, bf⟩
theorem fileRuns_walk (w : World) : Calls Try.prog 3 #[] w fun e w' => e = .returned (.bool true) ∧ Below w.heap.size w w' := fruns_any w
end Go.Proofs.Ytdlcbclfniahoaa.St
