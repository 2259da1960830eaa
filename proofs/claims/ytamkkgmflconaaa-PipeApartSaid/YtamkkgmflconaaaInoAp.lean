/- What InodeApart's calls answer and leave: inode 2 stays as it is. No condition but those written in each statement. -/
import Derived.Test.YtamkkgmflconaaaInoCo
namespace Go.Proofs.Ytamkkgmflconaaa.St
open Go.RowKit
set_option linter.unusedVariables false

def staysB : ByteArray := ⟨#[115, 116, 97, 121, 115]⟩
def AP (st : VSt) : Prop := Holds st 2 2 3 1 staysB ∧ (((st.get 10 1).s.size : Int) ≤ 128 ∧ ((st.get 10 3).s.size : Int) ≤ 128) ∧ ∀ k : Int, 4 ≤ k → k < 16 → (st.get 10 k).n 0 = 0

theorem ap_same {st st' : VSt} (h : AP st) (e : ∀ k n, st'.get k n = st.get k n) : AP st' := by
  unfold AP Holds at *
  simp only [e]
  exact h
theorem ap_saw {st : VSt} (h : AP st) (j : Int) : AP (iSaw st j) := ap_same h fun k n => get_iSaw _ _ _ _

theorem ap_start : AP (iChange (iWrite (csN 3) 2 0 staysB) 2 3 1) := by
  refine ⟨?_, ⟨?_, ?_⟩, ?_⟩
  · exact ⟨by kernel_rfl, by kernel_rfl, by kernel_rfl, by kernel_rfl⟩
  · have : ((iChange (iWrite (csN 3) 2 0 staysB) 2 3 1).get 10 1).s.size = 0 := by kernel_rfl
    rw [this]; decide
  · have : ((iChange (iWrite (csN 3) 2 0 staysB) 2 3 1).get 10 3).s.size = 0 := by kernel_rfl
    rw [this]; decide
  · intro k h1 h2
    rw [change_other _ _ _ _ _ (by omega), get_iWrite_other _ _ _ _ _ _ (by omega)]
    have : k = 4 ∨ k = 5 ∨ k = 6 ∨ k = 7 ∨ k = 8 ∨ k = 9 ∨ k = 10 ∨ k = 11 ∨ k = 12 ∨ k = 13 ∨ k = 14 ∨ k = 15 := by omega
    rcases this with rfl | rfl | rfl | rfl | rfl | rfl | rfl | rfl | rfl | rfl | rfl | rfl <;> (show _ = (0 : Int); kernel_rfl)

theorem iVal_small {st : VSt} (j : Int) (h1 : 1 ≤ j) (h2 : j < 16) (hs : ((st.get 10 j).s.size : Int) ≤ 128) : ((iVal st j).s.size : Int) ≤ 128 := by
  unfold iVal iValIn
  rw [if_neg (by omega)]
  split
  · decide
  · exact hs

theorem ap_set {st st' : VSt} (h : AP st) (j : Int) (hj : j = 1 ∨ j = 3) (ho : ∀ k, k ≠ j → st'.get 10 k = st.get 10 k) (hs : ((st'.get 10 j).s.size : Int) ≤ 128) : AP st' := by
  obtain ⟨a, ⟨b, c⟩, d⟩ := h
  refine ⟨?_, ⟨?_, ?_⟩, fun k h1 h2 => ?_⟩
  · unfold Holds; rw [ho 2 (by omega)]; exact a
  · rcases hj with rfl | rfl
    · exact hs
    · rw [ho 1 (by omega)]; exact b
  · rcases hj with rfl | rfl
    · rw [ho 3 (by omega)]; exact c
    · exact hs
  · rw [ho k (by omega)]; exact d k h1 h2

theorem ap_size {st : VSt} (h : AP st) (j : Int) (hj : j = 1 ∨ j = 3) : ((iVal st j).s.size : Int) ≤ 128 := by
  refine iVal_small j (by omega) (by omega) ?_
  rcases hj with rfl | rfl
  · exact h.2.1.1
  · exact h.2.1.2
theorem ap_change' {st : VSt} (h : AP st) (j : Int) (hj : j = 1 ∨ j = 3) (dl dh : Int) : AP (iChange st j dl dh) := by
  refine ap_set h j hj (fun k hk => change_other _ _ _ _ _ hk) ?_
  have hs : ((st.get 10 j).s.size : Int) ≤ 128 := by
    rcases hj with rfl | rfl
    · exact h.2.1.1
    · exact h.2.1.2
  have hv := ap_size h j hj
  unfold iChange
  split
  · rw [get_iSaw]; exact hs
  · split
    · rw [get_put_same _ _ _ _ (place10 j (by omega) (by omega))]; decide
    · rw [get_put_same _ _ _ _ (place10 j (by omega) (by omega))]
      have : (iTurn (iVal st j) dl dh).s = (iVal st j).s := by simp [iTurn, Val.set]
      rw [this]; exact hv
theorem ap_write' {st : VSt} (h : AP st) (j : Int) (hj : j = 1 ∨ j = 3) (off : Int) (D : ByteArray) : AP (iWrite st j off D) := by
  refine ap_set h j hj (fun k hk => get_iWrite_other _ _ _ _ _ _ (by omega)) ?_
  have hv := ap_size h j hj
  by_cases hm : iMay st j off
  · rw [get_iWrite_same st j off D (by omega) (by omega) hm]
    obtain ⟨m1, m2, m3, m4⟩ := hm
    have := over_max (iVal st j).s D off m2 m4 m3 hv
    simpa [Val.text] using this
  · rw [get_iWrite_no st j off D hm]
    rcases hj with rfl | rfl
    · exact h.2.1.1
    · exact h.2.1.2

theorem ap_none {st : VSt} (h : AP st) (k : Int) (hk : k < 1 ∨ 4 ≤ k) : iHas st k = false ∧ iVal st k = Val.zero := by
  by_cases ho : k < 1 ∨ 16 ≤ k
  · exact ⟨iHas_out st k ho, iVal_out st k ho⟩
  · have := h.2.2 k (by omega) (by omega)
    exact ⟨iHas_none st k (by omega) (by omega) this, iVal_none st k (by omega) (by omega) this⟩

section
variable {w W : World} {t : Nat} {L : Lay} {d q : Nat} {st : VSt}

theorem ap_stays (S : Std w t L d q (csN 3) W) : Calls Try.prog 16 #[.pointer (some ⟨L.v, 0, none⟩), .int .i64 2, .int .i64 0, .string ⟨#[115, 116, 97, 121, 115]⟩] W fun e W' => e = .returned (.int .i64 5) ∧ Std w t L d q (iWrite (csN 3) 2 0 staysB) W' := by
  have h := s_write S 2 0 staysB (by rw [show (iVal (csN 3) 2).s.size = 0 by kernel_rfl]; decide) (by decide)
  rw [show iWrote (csN 3) 2 0 staysB = 5 by kernel_rfl] at h
  exact h.mono fun e W' ⟨x, y, _⟩ => ⟨x, y⟩
theorem ap_links3 (S : Std w t L d q (iWrite (csN 3) 2 0 staysB) W) : Calls Try.prog 18 #[.pointer (some ⟨L.v, 0, none⟩), .int .i64 2, .int .i64 3, .int .i64 1] W fun e W' => e = .returned (.bool true) ∧ ∃ st', AP st' ∧ Std w t L d q st' W' := by
  have h := s_change S 2 3 1
  rw [show iHas (iWrite (csN 3) 2 0 staysB) 2 = true by kernel_rfl] at h
  exact h.mono fun e W' ⟨x, y, _⟩ => ⟨x, _, ap_start, y⟩

theorem ap_change (h : AP st) (j : Int) (hj : j = 1 ∨ j = 3) (dl dh : Int) (S : Std w t L d q st W) : Calls Try.prog 18 #[.pointer (some ⟨L.v, 0, none⟩), .int .i64 j, .int .i64 dl, .int .i64 dh] W fun e W' => ∃ x, e = .returned (.bool x) ∧ ∃ st', AP st' ∧ Std w t L d q st' W' :=
  (s_change S j dl dh).mono fun e W' ⟨x, y, _⟩ => ⟨_, x, _, ap_change' h j hj dl dh, y⟩
theorem ap_write (h : AP st) (j : Int) (hj : j = 1 ∨ j = 3) (off : Int) (D : ByteArray) (hd : (D.size : Int) ≤ 140737488351232) (S : Std w t L d q st W) : Calls Try.prog 16 #[.pointer (some ⟨L.v, 0, none⟩), .int .i64 j, .int .i64 off, .string D] W fun e W' => ∃ x, e = .returned (.int .i64 x) ∧ ∃ st', AP st' ∧ Std w t L d q st' W' :=
  (s_write S j off D (by have := ap_size h j hj; omega) hd).mono fun e W' ⟨x, y, _⟩ => ⟨_, x, _, ap_write' h j hj off D, y⟩
theorem ap_read (h : AP st) (j : Int) (hj : j = 1 ∨ j = 3) (off n : Int) (S : Std w t L d q st W) : Calls Try.prog 17 #[.pointer (some ⟨L.v, 0, none⟩), .int .i64 j, .int .i64 off, .int .i64 n] W fun e W' => ∃ x, e = .returned (.string x) ∧ ∃ st', AP st' ∧ Std w t L d q st' W' :=
  (s_read S j off n (by have := ap_size h j hj; omega)).mono fun e W' ⟨x, y, _⟩ => ⟨_, x, _, ap_saw h j, y⟩
theorem ap_read2 (h : AP st) (S : Std w t L d q st W) : Calls Try.prog 17 #[.pointer (some ⟨L.v, 0, none⟩), .int .i64 2, .int .i64 0, .int .i64 99] W fun e W' => e = .returned (.string ⟨#[115, 116, 97, 121, 115]⟩) ∧ ∃ st', AP st' ∧ Std w t L d q st' W' := by
  have k := s_read S 2 0 99 (by rw [(holds_val h.1 (by decide) (by decide) (by decide)).1]; decide)
  rw [holds_read h.1 (by decide) (by decide) (by decide), show (if (0 : Int) < 0 ∨ (staysB.size : Int) ≤ 0 ∨ (99 : Int) < 1 then ByteArray.empty else staysB.extract (0 : Int).toNat (0 + min 99 ((staysB.size : Int) - 0)).toNat) = ⟨#[115, 116, 97, 121, 115]⟩ by kernel_rfl] at k
  exact k.mono fun e W' ⟨x, y, _⟩ => ⟨x, _, ap_saw h 2, y⟩
theorem ap_links (h : AP st) (S : Std w t L d q st W) : Calls Try.prog 24 #[.pointer (some ⟨L.v, 0, none⟩), .int .i64 2] W fun e W' => e = .returned (.int .i64 3) ∧ ∃ st', AP st' ∧ Std w t L d q st' W' :=
  (s_links S h.1 (by decide) (by decide) (by decide)).mono fun e W' ⟨x, y, _⟩ => ⟨x, _, ap_saw h 2, y⟩
theorem ap_type (h : AP st) (S : Std w t L d q st W) : Calls Try.prog 25 #[.pointer (some ⟨L.v, 0, none⟩), .int .i64 2] W fun e W' => e = .returned (.int .i64 2) ∧ ∃ st', AP st' ∧ Std w t L d q st' W' :=
  (s_type S h.1 (by decide) (by decide) (by decide)).mono fun e W' ⟨x, y, _⟩ => ⟨x, _, ap_saw h 2, y⟩
theorem ap_wout (h : AP st) (k : Int) (hk : k < 1 ∨ 4 ≤ k) (S : Std w t L d q st W) : Calls Try.prog 16 #[.pointer (some ⟨L.v, 0, none⟩), .int .i64 k, .int .i64 0, .string ⟨#[120]⟩] W fun e W' => e = .returned (.int .i64 (-1)) ∧ ∃ st', AP st' ∧ Std w t L d q st' W' := by
  obtain ⟨n1, n2⟩ := ap_none h k hk
  have hm : ¬ iMay st k 0 := fun ⟨a, _⟩ => by rw [n1] at a; cases a
  have z := s_write S k 0 ⟨#[120]⟩ (by rw [n2]; decide) (by decide)
  rw [show iWrote st k 0 ⟨#[120]⟩ = -1 by unfold iWrote; rw [if_neg hm]] at z
  exact z.mono fun e W' ⟨x, y, _⟩ => ⟨x, _, ap_same h (get_iWrite_no st k 0 _ hm), y⟩
theorem ap_cout (h : AP st) (k : Int) (hk : k < 1 ∨ 4 ≤ k) (a b : Int) (S : Std w t L d q st W) : Calls Try.prog 18 #[.pointer (some ⟨L.v, 0, none⟩), .int .i64 k, .int .i64 a, .int .i64 b] W fun e W' => e = .returned (.bool false) ∧ ∃ st', AP st' ∧ Std w t L d q st' W' := by
  obtain ⟨n1, n2⟩ := ap_none h k hk
  have z := s_change S k a b
  rw [n1] at z
  exact z.mono fun e W' ⟨x, y, _⟩ => ⟨x, _, ap_same h (fun p q => by unfold iChange; rw [if_pos n1, get_iSaw]), y⟩
theorem ap_rout (h : AP st) (k : Int) (hk : k < 1 ∨ 4 ≤ k) (S : Std w t L d q st W) : Calls Try.prog 17 #[.pointer (some ⟨L.v, 0, none⟩), .int .i64 k, .int .i64 0, .int .i64 9] W fun e W' => e = .returned (.string ⟨#[]⟩) ∧ ∃ st', AP st' ∧ Std w t L d q st' W' := by
  obtain ⟨n1, n2⟩ := ap_none h k hk
  have z := s_read S k 0 9 (by rw [n2]; decide)
  rw [show iRead st k 0 9 = ⟨#[]⟩ by unfold iRead; rw [n2]; kernel_rfl] at z
  exact z.mono fun e W' ⟨x, y, _⟩ => ⟨x, _, ap_saw h k, y⟩
theorem ap_sout (h : AP st) (k : Int) (hk : k < 1 ∨ 4 ≤ k) (S : Std w t L d q st W) : Calls Try.prog 23 #[.pointer (some ⟨L.v, 0, none⟩), .int .i64 k] W fun e W' => e = .returned (.int .i64 0) ∧ ∃ st', AP st' ∧ Std w t L d q st' W' := by
  obtain ⟨n1, n2⟩ := ap_none h k hk
  have z := s_size S k
  rw [n2] at z
  exact z.mono fun e W' ⟨x, y, _⟩ => ⟨x, _, ap_saw h k, y⟩
theorem ap_iout (h : AP st) (k : Int) (hk : k < 1 ∨ 4 ≤ k) (S : Std w t L d q st W) : Calls Try.prog 19 #[.pointer (some ⟨L.v, 0, none⟩), .int .i64 k] W fun e W' => e = .returned (.bool false) ∧ Below w.heap.size w W' := by
  obtain ⟨n1, n2⟩ := ap_none h k hk
  have z := s_is S k
  rw [n1] at z
  exact z.mono fun e W' ⟨x, y, _⟩ => ⟨x, y.b⟩
end
end Go.Proofs.Ytamkkgmflconaaa.St
