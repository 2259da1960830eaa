/- What PipeApart's calls answer and leave: the first pipe stays as it is. No condition but those written in each statement. -/
import Derived.Test.YtamkkgmflconaaaPipP
import Derived.Test.YtamkkgmflconaaaInoAp
namespace Go.Proofs.Ytamkkgmflconaaa.St
open Go.RowKit
set_option linter.unusedVariables false

structure QA (st : VSt) : Prop where
  a : PHolds st 0 1 1 staysB
  u : (st.get 7 0).n 0 = 3 ∨ (st.get 7 0).n 0 = 1
  b : (st.get 8 1).s.size ≤ 16

def qa1 : VSt := pAlloc pz1
def qa2 : VSt := pWriteV qa1 0 staysB
theorem qa_start : QA qa2 := by
  refine ⟨⟨by kernel_rfl, by kernel_rfl, by kernel_rfl, by kernel_rfl⟩, Or.inl (by kernel_rfl), ?_⟩
  rw [show (qa2.get 8 1).s.size = 0 by kernel_rfl]; decide

theorem QA.same {st st' : VSt} (h : QA st) (e : ∀ k n, st'.get k n = st.get k n) : QA st' :=
  ⟨h.a.same (e 7 0) (e 8 0), by rw [e]; exact h.u, by rw [e]; exact h.b⟩
theorem QA.put {st st' : VSt} (h : QA st) (e7 : st'.get 7 0 = st.get 7 0) (e8 : st'.get 8 0 = st.get 8 0) (hs : (st'.get 8 1).s.size ≤ 16) : QA st' :=
  ⟨h.a.same e7 e8, by rw [e7]; exact h.u, hs⟩

theorem QA.read {st : VSt} (h : QA st) (n : Int) : QA (pReadV st 1 n) := by
  unfold pReadV
  split
  · exact h.same fun k n => get_pSaw _ _ _ _
  · split
    · refine h.put ?_ ?_ ?_
      · rw [put8_7, get_pLook]
      · rw [get_put_other _ _ _ _ _ _ (by omega), get_pLook]
      · rw [get_put_same _ _ _ _ (place8 1 (by decide) (by decide))]
        have := left_size (st.get 8 1).s n (by omega)
        have hb := h.b
        have : ((pLeft (st.get 8 1).s n).size : Int) ≤ 16 := by omega
        show (pLeft (st.get 8 1).s n).size ≤ 16
        omega
    · exact h.same fun k n => get_pLook _ _ _ _
theorem QA.write {st : VSt} (h : QA st) (D : ByteArray) : QA (pWriteV st 1 D) := by
  unfold pWriteV
  split
  · exact h.same fun k n => get_pSaw _ _ _ _
  · split
    · rename_i hm
      refine h.put ?_ ?_ ?_
      · rw [put8_7, get_pLook]
      · rw [get_put_other _ _ _ _ _ _ (by omega), get_pLook]
      · rw [get_put_same _ _ _ _ (place8 1 (by decide) (by decide))]
        have hg := give_size (st.get 8 1).s D h.b
        have hb := h.b
        show ((st.get 8 1).s ++ pGive (st.get 8 1).s D).size ≤ 16
        rw [ByteArray.size_append]
        omega
    · exact h.same fun k n => get_pLook _ _ _ _
theorem QA.ends {st : VSt} (h : QA st) (wr : Bool) (k : Int) : QA (pEnds st 1 wr k) := by
  unfold pEnds
  split
  · exact h.same fun k n => get_pSaw _ _ _ _
  · rename_i hh
    have hh : pHas st 1 = true := by simpa using hh
    split
    · have hu : (st.get 7 0).n 0 = 3 := by
        rcases h.u with u | u
        · exact u
        · exfalso
          unfold pHas at hh
          rw [u, show (if (1 : Int) < 0 ∨ (4 : Int) ≤ 1 then false else usedI 1 (1 : Int).toNat) = false by kernel_rfl] at hh
          cases hh
      have e7 : ((pGone st 1).get 7 0).n 0 = 1 := by
        unfold pGone
        rw [put8_7, used_pMark, get_pLook, hu]
        kernel_rfl
      have e8 : (pGone st 1).get 8 0 = st.get 8 0 := by
        unfold pGone
        rw [get_put_other _ _ _ _ _ _ (by omega), get_pMark _ _ _ _ _ (by omega), get_pLook]
      refine ⟨⟨?_, by rw [e8]; exact h.a.r, by rw [e8]; exact h.a.w, by rw [e8]; exact h.a.s⟩, Or.inr e7, ?_⟩
      · unfold pHas; rw [e7]; kernel_rfl
      · unfold pGone
        rw [get_put_same _ _ _ _ (place8 1 (by decide) (by decide))]
        decide
    · refine h.put ?_ ?_ ?_
      · rw [put8_7, get_pLook]
      · rw [get_put_other _ _ _ _ _ _ (by omega), get_pLook]
      · rw [get_put_same _ _ _ _ (place8 1 (by decide) (by decide))]
        have : (pTurn (st.get 8 1) wr k).s = (st.get 8 1).s := by cases wr <;> simp [pTurn, Val.set]
        rw [this]; exact h.b

section
variable {w W : World} {t : Nat} {L : Lay} {d q : Nat} {st : VSt}
theorem qa_alloc (S : Std w t L d q pz1 W) : Calls Try.prog 26 #[.pointer (some ⟨L.v, 0, none⟩)] W fun e W' => e = .returned (.tuple #[.int .i64 1, .bool true]) ∧ Std w t L d q qa1 W' := by
  have h := sp_alloc S
  rw [show pGot pz1 = 1 by kernel_rfl, show decide (pFree pz1 < 4) = true by kernel_rfl] at h
  exact h.mono fun e W' ⟨a, b, _⟩ => ⟨a, b⟩
theorem qa_stays (S : Std w t L d q qa1 W) : Calls Try.prog 27 #[.pointer (some ⟨L.v, 0, none⟩), .int .i64 0, .string ⟨#[115, 116, 97, 121, 115]⟩] W fun e W' => e = .returned (.tuple #[.int .i64 5, .int .i64 0]) ∧ ∃ st', QA st' ∧ Std w t L d q st' W' := by
  have h := sp_write S 0 staysB (by rw [show (qa1.get 8 0).s.size = 0 by kernel_rfl]; decide) (by decide)
  rw [show (pWrote qa1 0 staysB).1 = 5 by kernel_rfl, show (pWrote qa1 0 staysB).2 = 0 by kernel_rfl] at h
  exact h.mono fun e W' ⟨a, b, _⟩ => ⟨a, _, qa_start, b⟩
theorem qa_read (h : QA st) (n : Int) (S : Std w t L d q st W) : Calls Try.prog 28 #[.pointer (some ⟨L.v, 0, none⟩), .int .i64 1, .int .i64 n] W fun e W' => ∃ x y, e = .returned (.tuple #[.string x, .int .i64 y]) ∧ ∃ st', QA st' ∧ Std w t L d q st' W' :=
  (sp_read S 1 n).mono fun e W' ⟨a, b, _⟩ => ⟨_, _, a, _, h.read n, b⟩
theorem qa_write (h : QA st) (D : ByteArray) (hD : (D.size : Int) ≤ 140737488351232) (S : Std w t L d q st W) : Calls Try.prog 27 #[.pointer (some ⟨L.v, 0, none⟩), .int .i64 1, .string D] W fun e W' => ∃ x y, e = .returned (.tuple #[.int .i64 x, .int .i64 y]) ∧ ∃ st', QA st' ∧ Std w t L d q st' W' :=
  (sp_write S 1 D (by have := h.b; omega) hD).mono fun e W' ⟨a, b, _⟩ => ⟨_, _, a, _, h.write D, b⟩
theorem qa_ends (h : QA st) (wr : Bool) (k : Int) (S : Std w t L d q st W) : Calls Try.prog 29 #[.pointer (some ⟨L.v, 0, none⟩), .int .i64 1, .bool wr, .int .i64 k] W fun e W' => ∃ x, e = .returned (.bool x) ∧ ∃ st', QA st' ∧ Std w t L d q st' W' :=
  (sp_ends S 1 wr k).mono fun e W' ⟨a, b, _⟩ => ⟨_, a, _, h.ends wr k, b⟩
theorem qa_rout (h : QA st) (i n : Int) (hi : (i < 0 ∨ 4 ≤ i) ∨ n < 0) (S : Std w t L d q st W) : Calls Try.prog 28 #[.pointer (some ⟨L.v, 0, none⟩), .int .i64 i, .int .i64 n] W fun e W' => e = .returned (.tuple #[.string ⟨#[]⟩, .int .i64 1]) ∧ ∃ st', QA st' ∧ Std w t L d q st' W' := by
  have c : pHas st i = false ∨ n < 0 := hi.imp (pHas_out st i) id
  have k := sp_read S i n
  rw [show pRead st i n = ⟨#[]⟩ by unfold pRead; rw [if_pos c], show pReadS st i n = 1 by unfold pReadS; rw [if_pos c]] at k
  exact k.mono fun e W' ⟨a, b, _⟩ => ⟨a, _, h.same (fun p q => by unfold pReadV; rw [if_pos c, get_pSaw]), b⟩
theorem qa_wout (h : QA st) (i : Int) (hi : i < 0 ∨ 4 ≤ i) (S : Std w t L d q st W) : Calls Try.prog 27 #[.pointer (some ⟨L.v, 0, none⟩), .int .i64 i, .string ⟨#[120]⟩] W fun e W' => e = .returned (.tuple #[.int .i64 (-1), .int .i64 1]) ∧ ∃ st', QA st' ∧ Std w t L d q st' W' :=
  (pwrite_out L st i ⟨#[120]⟩ (pHas_out st i hi) W S.v).mono fun e W' ⟨a, b, c⟩ => ⟨a, _, h.same (fun p q => get_pSaw _ _ _ _), S.step b (c.mono fun _ _ => Or.inl)⟩
theorem qa_last (h : QA st) (S : Std w t L d q st W) : Calls Try.prog 28 #[.pointer (some ⟨L.v, 0, none⟩), .int .i64 0, .int .i64 99] W fun e W' => e = .returned (.tuple #[.string ⟨#[115, 116, 97, 121, 115]⟩, .int .i64 0]) ∧ ∃ st', Std w t L d q st' W' := by
  obtain ⟨_, k2, k3⟩ := h.a.read 99 (by decide)
  have k := sp_read S 0 99
  rw [k2, k3, show pTook staysB 99 = ⟨#[115, 116, 97, 121, 115]⟩ by kernel_rfl, if_neg (by decide)] at k
  exact k.mono fun e W' ⟨a, b, _⟩ => ⟨a, _, b⟩
theorem qa_eout (i : Int) (hi : i < 0 ∨ 4 ≤ i) (wr : Bool) (n : Int) (S : Std w t L d q st W) : Calls Try.prog 29 #[.pointer (some ⟨L.v, 0, none⟩), .int .i64 i, .bool wr, .int .i64 n] W fun e W' => e = .returned (.bool false) ∧ Below w.heap.size w W' := by
  have k := sp_ends S i wr n
  rw [pHas_out st i hi] at k
  exact k.mono fun e W' ⟨a, b, _⟩ => ⟨a, b.b⟩
end
end Go.Proofs.Ytamkkgmflconaaa.St
