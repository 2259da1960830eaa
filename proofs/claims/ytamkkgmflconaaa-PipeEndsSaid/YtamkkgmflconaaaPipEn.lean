/- What PipeEnds' calls answer and leave. No condition but those written in each statement. -/
import Derived.Test.YtamkkgmflconaaaPipP
namespace Go.Proofs.Ytamkkgmflconaaa.St
open Go.RowKit
set_option linter.unusedVariables false

/-- The views behind one Alloc after another. -/
def paN : Nat → VSt
  | 0 => csN 0
  | n + 1 => pAlloc (paN n)
theorem pa_free : ∀ n, n < 4 → pFree (paN n) = n := by
  intro n hn
  have : n = 0 ∨ n = 1 ∨ n = 2 ∨ n = 3 := by omega
  rcases this with rfl | rfl | rfl | rfl <;> (show pFree (paN _) = _; kernel_rfl)
theorem pa_full : pFree (paN 4) = 4 := by kernel_rfl

/-- The third pipe has r readers and w writers, and goes with the last one; the second stays. -/
structure ERel (st : VSt) (r w : Nat) : Prop where
  on : 0 < r + w → PHolds st 2 r w ⟨#[]⟩ ∧ (st.get 7 0).n 0 = 15
  off : r + w = 0 → (st.get 7 0).n 0 = 11

theorem ERel.same {st st' : VSt} {r w : Nat} (h : ERel st r w) (e : ∀ k n, st'.get k n = st.get k n) : ERel st' r w :=
  ⟨fun p => ⟨(h.on p).1.same (e 7 0) (e 8 2), by rw [e]; exact (h.on p).2⟩, fun p => by rw [e]; exact h.off p⟩
theorem er_start : ERel (pAlloc (paN 4)) 1 1 := by
  refine ⟨fun _ => ⟨⟨by kernel_rfl, by kernel_rfl, by kernel_rfl, by kernel_rfl⟩, by kernel_rfl⟩, fun p => by omega⟩

theorem er_ends {st : VSt} {r w : Nat} (h : ERel st r w) (hr : r ≤ 4) (hw : w ≤ 4) (hp : 0 < r + w) (wr : Bool) (k : Int) (r' w' : Nat) (hr4 : r' ≤ 4) (hw4 : w' ≤ 4) (er : (r' : Int) = if wr then (r : Int) else r + k) (ew : (w' : Int) = if wr then (w : Int) + k else w) :
    ERel (pEnds st 2 wr k) r' w' := by
  obtain ⟨H, hu⟩ := h.on hp
  have e1 : (r' : Int) = if wr then (r : Int) else wrap64 (r + k) := by
    cases wr
    · simp at er ⊢; rw [er]; unfold wrap64; omega
    · simpa using er
  have e2 : (w' : Int) = if wr then wrap64 ((w : Int) + k) else w := by
    cases wr
    · simpa using ew
    · simp at ew ⊢; rw [ew]; unfold wrap64; omega
  by_cases hz : r' + w' = 0
  · have k1 := (H.gone wr k (by rw [← e1]; omega) (by rw [← e2]; omega)).1
    refine ⟨fun p => by omega, fun _ => ?_⟩
    rw [k1, hu]; kernel_rfl
  · refine ⟨fun _ => ⟨H.ends wr k r' w' e1 e2 (by omega), ?_⟩, fun p => absurd p hz⟩
    have c : ¬((pTurn (st.get 8 2) wr k).n 0 ≤ 0 ∧ (pTurn (st.get 8 2) wr k).n 1 ≤ 0) := by
      have e0 : (pTurn (st.get 8 2) wr k).n 0 = r' := by cases wr <;> simp [pTurn, Val.set, H.r, e1]
      have e3 : (pTurn (st.get 8 2) wr k).n 1 = w' := by cases wr <;> simp [pTurn, Val.set, H.w, e2]
      rw [e0, e3]; omega
    unfold pEnds
    rw [if_neg (by rw [H.has]; decide), if_neg c, put8_7, get_pLook]
    exact hu

section
variable {w W : World} {t : Nat} {L : Lay} {d q : Nat} {st : VSt}
theorem pe_alloc (n : Nat) (hn : n < 4) (S : Std w t L d q (paN n) W) : Calls Try.prog 26 #[.pointer (some ⟨L.v, 0, none⟩)] W fun e W' => e = .returned (.tuple #[.int .i64 (n : Int), .bool true]) ∧ Std w t L d q (paN (n + 1)) W' := by
  have h := sp_alloc S
  have hf := pa_free n hn
  rw [show pGot (paN n) = (n : Int) by unfold pGot; rw [hf, if_pos hn], show decide (pFree (paN n) < 4) = true by rw [hf]; simp; omega] at h
  exact h.mono fun e W' ⟨a, b, _⟩ => ⟨a, b⟩
theorem pe_full (S : Std w t L d q (paN 4) W) : Calls Try.prog 26 #[.pointer (some ⟨L.v, 0, none⟩)] W fun e W' => e = .returned (.tuple #[.int .i64 0, .bool false]) ∧ ∃ st', ERel st' 1 1 ∧ Std w t L d q st' W' := by
  have h := sp_alloc S
  rw [show pGot (paN 4) = 0 by unfold pGot; rw [pa_full, if_neg (by decide)], show decide (pFree (paN 4) < 4) = false by rw [pa_full]; decide] at h
  exact h.mono fun e W' ⟨a, b, _⟩ => ⟨a, _, er_start, b⟩
theorem pe_ends {r v : Nat} (h : ERel st r v) (hr : r ≤ 4) (hw : v ≤ 4) (hp : 0 < r + v) (wr : Bool) (k : Int) (r' w' : Nat) (hr4 : r' ≤ 4) (hw4 : w' ≤ 4) (er : (r' : Int) = if wr then (r : Int) else r + k) (ew : (w' : Int) = if wr then (v : Int) + k else v) (S : Std w t L d q st W) :
    Calls Try.prog 29 #[.pointer (some ⟨L.v, 0, none⟩), .int .i64 2, .bool wr, .int .i64 k] W fun e W' => e = .returned (.bool true) ∧ ∃ st', ERel st' r' w' ∧ Std w t L d q st' W' := by
  have z := sp_ends S 2 wr k
  rw [(h.on hp).1.has] at z
  exact z.mono fun e W' ⟨a, b, _⟩ => ⟨a, _, er_ends h hr hw hp wr k r' w' hr4 hw4 er ew, b⟩
theorem pe_is {r v : Nat} (h : ERel st r v) (hp : 0 < r + v) (S : Std w t L d q st W) : Calls Try.prog 30 #[.pointer (some ⟨L.v, 0, none⟩), .int .i64 2] W fun e W' => e = .returned (.bool true) ∧ ∃ st', ERel st' r v ∧ Std w t L d q st' W' := by
  have z := sp_is S 2
  rw [(h.on hp).1.has] at z
  exact z.mono fun e W' ⟨a, b, _⟩ => ⟨a, _, h.same fun k n => get_pSaw _ _ _ _, b⟩
theorem pe_write0 {v : Nat} (h : ERel st 0 v) (hp : 0 < 0 + v) (S : Std w t L d q st W) : Calls Try.prog 27 #[.pointer (some ⟨L.v, 0, none⟩), .int .i64 2, .string ⟨#[]⟩] W fun e W' => e = .returned (.tuple #[.int .i64 (-1), .int .i64 1]) ∧ ∃ st', ERel st' 0 v ∧ Std w t L d q st' W' := by
  have H := (h.on hp).1
  have m : ¬ pMay st 2 ⟨#[]⟩ := fun ⟨_, _, c, _⟩ => absurd c (by decide)
  have z := sp_write S 2 ⟨#[]⟩ (by rw [H.s]; decide) (by decide)
  rw [show pWrote st 2 ⟨#[]⟩ = (-1, 1) by unfold pWrote pNay; rw [if_neg (by rw [H.has]; decide), if_neg m, H.r, if_pos (by decide)]] at z
  exact z.mono fun e W' ⟨a, b, _⟩ => ⟨a, _, h.same (fun k n => by unfold pWriteV; rw [if_neg (by rw [H.has]; decide), if_neg m, get_pLook]), b⟩
theorem pe_write1 {r v : Nat} (h : ERel st r v) (hr : 0 < r) (S : Std w t L d q st W) : Calls Try.prog 27 #[.pointer (some ⟨L.v, 0, none⟩), .int .i64 2, .string ⟨#[]⟩] W fun e W' => e = .returned (.tuple #[.int .i64 0, .int .i64 0]) ∧ ∃ st', ERel st' r v ∧ Std w t L d q st' W' := by
  have H := (h.on (by omega)).1
  have m : ¬ pMay st 2 ⟨#[]⟩ := fun ⟨_, _, c, _⟩ => absurd c (by decide)
  have z := sp_write S 2 ⟨#[]⟩ (by rw [H.s]; decide) (by decide)
  rw [show pWrote st 2 ⟨#[]⟩ = (0, 0) by unfold pWrote pNay; rw [if_neg (by rw [H.has]; decide), if_neg m, H.r, if_neg (by omega), if_pos (by decide)]] at z
  exact z.mono fun e W' ⟨a, b, _⟩ => ⟨a, _, h.same (fun k n => by unfold pWriteV; rw [if_neg (by rw [H.has]; decide), if_neg m, get_pLook]), b⟩
theorem pe_read {r v : Nat} (h : ERel st r v) (hp : 0 < r + v) (y : Int) (hy : y = if 0 < v then 2 else 0) (S : Std w t L d q st W) : Calls Try.prog 28 #[.pointer (some ⟨L.v, 0, none⟩), .int .i64 2, .int .i64 1] W fun e W' => e = .returned (.tuple #[.string ⟨#[]⟩, .int .i64 y]) ∧ ∃ st', ERel st' r v ∧ Std w t L d q st' W' := by
  have H := (h.on hp).1
  obtain ⟨_, k2, k3⟩ := H.read 1 (by decide)
  have c : ¬(pHas st 2 = false ∨ (1 : Int) < 0) := by rw [H.has]; decide
  have c2 : ¬((0 : Int) < 1 ∧ 0 < (st.get 8 2).s.size) := by rw [H.s]; decide
  have z := sp_read S 2 1
  rw [k2, k3, show pTook ⟨#[]⟩ 1 = ⟨#[]⟩ by kernel_rfl] at z
  have e : (if (⟨#[]⟩ : ByteArray).size = 0 ∧ (0 : Int) < (v : Int) then (2 : Int) else 0) = y := by
    rw [hy]
    by_cases q : 0 < v
    · rw [if_pos ⟨rfl, by omega⟩, if_pos q]
    · rw [if_neg (by rintro ⟨_, h⟩; omega), if_neg q]
  rw [e] at z
  exact z.mono fun e W' ⟨a, b, _⟩ => ⟨a, _, h.same (fun k n => by unfold pReadV; rw [if_neg c, if_neg c2, get_pLook]), b⟩
theorem has2_off (h : (st.get 7 0).n 0 = 11) : pHas st 2 = false ∧ pHas st 1 = true ∧ pFree st = 2 := by
  unfold pHas pFree
  rw [h]
  exact ⟨by kernel_rfl, by kernel_rfl, by kernel_rfl⟩
theorem pe_gone (h : ERel st 0 0) (S : Std w t L d q st W) : Calls Try.prog 30 #[.pointer (some ⟨L.v, 0, none⟩), .int .i64 2] W fun e W' => e = .returned (.bool false) ∧ ∃ st', ERel st' 0 0 ∧ Std w t L d q st' W' := by
  have z := sp_is S 2
  rw [(has2_off (h.off rfl)).1] at z
  exact z.mono fun e W' ⟨a, b, _⟩ => ⟨a, _, h.same fun k n => get_pSaw _ _ _ _, b⟩
theorem pe_noends (h : ERel st 0 0) (S : Std w t L d q st W) : Calls Try.prog 29 #[.pointer (some ⟨L.v, 0, none⟩), .int .i64 2, .bool true, .int .i64 1] W fun e W' => e = .returned (.bool false) ∧ ∃ st', ERel st' 0 0 ∧ Std w t L d q st' W' := by
  have n := (has2_off (h.off rfl)).1
  have z := sp_ends S 2 true 1
  rw [n] at z
  exact z.mono fun e W' ⟨a, b, _⟩ => ⟨a, _, h.same (fun k m => by unfold pEnds; rw [if_pos n, get_pSaw]), b⟩
theorem pe_other (h : ERel st 0 0) (S : Std w t L d q st W) : Calls Try.prog 30 #[.pointer (some ⟨L.v, 0, none⟩), .int .i64 1] W fun e W' => e = .returned (.bool true) ∧ ∃ st', ERel st' 0 0 ∧ Std w t L d q st' W' := by
  have z := sp_is S 1
  rw [(has2_off (h.off rfl)).2.1] at z
  exact z.mono fun e W' ⟨a, b, _⟩ => ⟨a, _, h.same fun k n => get_pSaw _ _ _ _, b⟩
theorem pe_again (h : ERel st 0 0) (S : Std w t L d q st W) : Calls Try.prog 26 #[.pointer (some ⟨L.v, 0, none⟩)] W fun e W' => e = .returned (.tuple #[.int .i64 2, .bool true]) ∧ Below w.heap.size w W' := by
  have z := sp_alloc S
  have f := (has2_off (h.off rfl)).2.2
  rw [show pGot st = 2 by unfold pGot; rw [f]; rfl, show decide (pFree st < 4) = true by rw [f]; decide] at z
  exact z.mono fun e W' ⟨a, b, _⟩ => ⟨a, b.b⟩
end
end Go.Proofs.Ytamkkgmflconaaa.St
