/- The contracts of pipe in the form that each call keeps the stores; PipeRuns. No condition but those written in each statement. -/
import Derived.Test.YtdlcbclfniahoaaPipF
import Derived.Test.YtdlcbclfniahoaaStd
namespace Go.Proofs.Ytdlcbclfniahoaa.St
open Go.RowKit
set_option linter.unusedVariables false

section
variable {w W : World} {t : Nat} {L : Lay} {d q : Nat} {st : VSt}
theorem sp_alloc (S : Std w t L d q st W) : Calls Try.prog 22 #[.pointer (some ⟨L.v, 0, none⟩)] W fun e W' => e = .returned (.tuple #[.int .i64 (pGot st), .bool (decide (pFree st < 4))]) ∧ Std w t L d q (pAlloc st) W' ∧ Maps L W W' :=
  (palloc_any L st W S.v).mono fun e W' ⟨a, b, c⟩ => ⟨a, S.step b c, c⟩
theorem sp_is (S : Std w t L d q st W) (i : Int) : Calls Try.prog 23 #[.pointer (some ⟨L.v, 0, none⟩), .int .i64 i] W fun e W' => e = .returned (.bool (pHas st i)) ∧ Std w t L d q (pSaw st i) W' ∧ Maps L W W' :=
  (pis_any L st i W S.v).mono fun e W' ⟨a, b, c⟩ => ⟨a, S.step b (c.mono fun _ _ => Or.inl), c.mono fun _ _ => Or.inl⟩
theorem sp_read (S : Std w t L d q st W) (i n : Int) : Calls Try.prog 36 #[.pointer (some ⟨L.v, 0, none⟩), .int .i64 i, .int .i64 n] W fun e W' => e = .returned (.tuple #[.string (pRead st i n), .int .i64 (pReadS st i n)]) ∧ Std w t L d q (pReadV st i n) W' ∧ Maps L W W' :=
  (pread_any L st i n W S.v).mono fun e W' ⟨a, b, c⟩ => ⟨a, S.step b c, c⟩
theorem sp_write (S : Std w t L d q st W) (i : Int) (D : ByteArray) (hs : ((st.get 8 i).s.size : Int) ≤ 140737488351232) (hd : (D.size : Int) ≤ 140737488351232) : Calls Try.prog 42 #[.pointer (some ⟨L.v, 0, none⟩), .int .i64 i, .string D] W fun e W' => e = .returned (.tuple #[.int .i64 (pWrote st i D).1, .int .i64 (pWrote st i D).2]) ∧ Std w t L d q (pWriteV st i D) W' ∧ Maps L W W' :=
  (pwrite_any L st i D hs hd W S.v).mono fun e W' ⟨a, b, c⟩ => ⟨a, S.step b c, c⟩
theorem sp_ends (S : Std w t L d q st W) (i : Int) (wr : Bool) (k : Int) : Calls Try.prog 41 #[.pointer (some ⟨L.v, 0, none⟩), .int .i64 i, .bool wr, .int .i64 k] W fun e W' => e = .returned (.bool (pHas st i)) ∧ Std w t L d q (pEnds st i wr k) W' ∧ Maps L W W' :=
  (pends_any L st i wr k W S.v).mono fun e W' ⟨a, b, c⟩ => ⟨a, S.step b c, c⟩
end

/-- cloisterkeep.New of nothing, in that form. -/
theorem s_new (w : World) : Calls Try.prog 7 #[.slice none 0 0] w fun e W => ∃ t d q, ∃ L : Lay, e = .returned (.pointer (some ⟨t, 0, none⟩)) ∧ Std w t L d q (csN 0) W :=
  (tnew_nil w).mono fun e W ⟨t, d, q, L, he, hT, hv, hq, b, gt, gd, gv, gs, gl, gr, gm⟩ => ⟨t, d, q, L, he, hv, hT, b, gr, gm⟩

def abcB : ByteArray := ⟨#[97, 98, 99]⟩
def pz1 : VSt := pAlloc (csN 0)
def pz2 : VSt := pWriteV pz1 0 abcB
def pz3 : VSt := pReadV pz2 0 2
def pz4 : VSt := pReadV pz3 0 9
def pz5 : VSt := pReadV pz4 0 1
def pz6 : VSt := pEnds pz5 0 true (-1)
def pz7 : VSt := pReadV pz6 0 1
def pz8 : VSt := pEnds pz7 0 false (-1)

section
variable {w W : World} {t : Nat} {L : Lay} {d q : Nat}
theorem prun1 (S : Std w t L d q (csN 0) W) : Calls Try.prog 22 #[.pointer (some ⟨L.v, 0, none⟩)] W fun e W' => e = .returned (.tuple #[.int .i64 0, .bool true]) ∧ Std w t L d q pz1 W' := by
  have h := sp_alloc S
  rw [show pGot (csN 0) = 0 by kernel_rfl, show decide (pFree (csN 0) < 4) = true by kernel_rfl] at h
  exact h.mono fun e W' ⟨a, b, _⟩ => ⟨a, b⟩
theorem prun2 (S : Std w t L d q pz1 W) : Calls Try.prog 42 #[.pointer (some ⟨L.v, 0, none⟩), .int .i64 0, .string ⟨#[97, 98, 99]⟩] W fun e W' => e = .returned (.tuple #[.int .i64 3, .int .i64 0]) ∧ Std w t L d q pz2 W' := by
  have h := sp_write S 0 abcB (by rw [show (pz1.get 8 0).s.size = 0 by kernel_rfl]; decide) (by decide)
  rw [show (pWrote pz1 0 abcB).1 = 3 by kernel_rfl, show (pWrote pz1 0 abcB).2 = 0 by kernel_rfl] at h
  exact h.mono fun e W' ⟨a, b, _⟩ => ⟨a, b⟩
theorem prun3 (S : Std w t L d q pz2 W) : Calls Try.prog 36 #[.pointer (some ⟨L.v, 0, none⟩), .int .i64 0, .int .i64 2] W fun e W' => e = .returned (.tuple #[.string ⟨#[97, 98]⟩, .int .i64 0]) ∧ Std w t L d q pz3 W' := by
  have h := sp_read S 0 2
  rw [show pRead pz2 0 2 = ⟨#[97, 98]⟩ by kernel_rfl, show pReadS pz2 0 2 = 0 by kernel_rfl] at h
  exact h.mono fun e W' ⟨a, b, _⟩ => ⟨a, b⟩
theorem prun4 (S : Std w t L d q pz3 W) : Calls Try.prog 36 #[.pointer (some ⟨L.v, 0, none⟩), .int .i64 0, .int .i64 9] W fun e W' => e = .returned (.tuple #[.string ⟨#[99]⟩, .int .i64 0]) ∧ Std w t L d q pz4 W' := by
  have h := sp_read S 0 9
  rw [show pRead pz3 0 9 = ⟨#[99]⟩ by kernel_rfl, show pReadS pz3 0 9 = 0 by kernel_rfl] at h
  exact h.mono fun e W' ⟨a, b, _⟩ => ⟨a, b⟩
theorem prun5 (S : Std w t L d q pz4 W) : Calls Try.prog 36 #[.pointer (some ⟨L.v, 0, none⟩), .int .i64 0, .int .i64 1] W fun e W' => e = .returned (.tuple #[.string ⟨#[]⟩, .int .i64 2]) ∧ Std w t L d q pz5 W' := by
  have h := sp_read S 0 1
  rw [show pRead pz4 0 1 = ⟨#[]⟩ by kernel_rfl, show pReadS pz4 0 1 = 2 by kernel_rfl] at h
  exact h.mono fun e W' ⟨a, b, _⟩ => ⟨a, b⟩
theorem prun6 (S : Std w t L d q pz5 W) : Calls Try.prog 41 #[.pointer (some ⟨L.v, 0, none⟩), .int .i64 0, .bool true, .int .i64 (-1)] W fun e W' => e = .returned (.bool true) ∧ Std w t L d q pz6 W' := by
  have h := sp_ends S 0 true (-1)
  rw [show pHas pz5 0 = true by kernel_rfl] at h
  exact h.mono fun e W' ⟨a, b, _⟩ => ⟨a, b⟩
theorem prun7 (S : Std w t L d q pz6 W) : Calls Try.prog 36 #[.pointer (some ⟨L.v, 0, none⟩), .int .i64 0, .int .i64 1] W fun e W' => e = .returned (.tuple #[.string ⟨#[]⟩, .int .i64 0]) ∧ Std w t L d q pz7 W' := by
  have h := sp_read S 0 1
  rw [show pRead pz6 0 1 = ⟨#[]⟩ by kernel_rfl, show pReadS pz6 0 1 = 0 by kernel_rfl] at h
  exact h.mono fun e W' ⟨a, b, _⟩ => ⟨a, b⟩
theorem prun8 (S : Std w t L d q pz7 W) : Calls Try.prog 41 #[.pointer (some ⟨L.v, 0, none⟩), .int .i64 0, .bool false, .int .i64 (-1)] W fun e W' => e = .returned (.bool true) ∧ Std w t L d q pz8 W' := by
  have h := sp_ends S 0 false (-1)
  rw [show pHas pz7 0 = true by kernel_rfl] at h
  exact h.mono fun e W' ⟨a, b, _⟩ => ⟨a, b⟩
theorem prun9 (S : Std w t L d q pz8 W) : Calls Try.prog 23 #[.pointer (some ⟨L.v, 0, none⟩), .int .i64 0] W fun e W' => e = .returned (.bool false) ∧ Below w.heap.size w W' := by
  have h := sp_is S 0
  rw [show pHas pz8 0 = false by kernel_rfl] at h
  exact h.mono fun e W' ⟨a, b, _⟩ => ⟨a, b.b⟩
end

end Go.Proofs.Ytdlcbclfniahoaa.St
