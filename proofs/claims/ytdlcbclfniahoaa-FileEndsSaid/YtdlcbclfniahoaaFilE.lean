/- What FileEnds' calls answer and leave. No condition but those written in each statement. -/
import Derived.Test.YtdlcbclfniahoaaFilD
import Derived.Test.YtdlcbclfniahoaaPipOr
namespace Go.Proofs.Ytdlcbclfniahoaa.St
open Go.RowKit
set_option linter.unusedVariables false

theorem readV_far (st : VSt) (i n k m : Int) (h : k ≠ 8) : (pReadV st i n).get k m = st.get k m := by
  unfold pReadV
  split
  · exact get_pSaw _ _ _ _
  · split
    · rw [get_put_other _ _ _ _ _ _ (by omega), get_pLook]
    · exact get_pLook _ _ _ _
theorem writeV_far (st : VSt) (i : Int) (D : ByteArray) (k m : Int) (h : k ≠ 8) : (pWriteV st i D).get k m = st.get k m := by
  unfold pWriteV
  split
  · exact get_pSaw _ _ _ _
  · split
    · rw [get_put_other _ _ _ _ _ _ (by omega), get_pLook]
    · exact get_pLook _ _ _ _
theorem ends_far (st : VSt) (i : Int) (wr : Bool) (e k m : Int) (h : k ≠ 8) (h7 : k ≠ 7) : (pEnds st i wr e).get k m = st.get k m := by
  unfold pEnds
  split
  · exact get_pSaw _ _ _ _
  · split
    · unfold pGone
      rw [get_put_other _ _ _ _ _ _ (by omega), get_pMark _ _ _ _ _ (by omega), get_pLook]
    · rw [get_put_other _ _ _ _ _ _ (by omega), get_pLook]
theorem alloc_far (st : VSt) (t k m : Int) (h9 : k ≠ 9) (h10 : k ≠ 10) : (iAlloc st t).get k m = st.get k m := by
  unfold iAlloc
  split
  · unfold iTake
    rw [get_put_other _ _ _ _ _ _ (by omega), get_put_other _ _ _ _ _ _ (by omega), get_saw]
  · exact get_saw _ _ _ _ _

/-- An end of the pipe, an open file. -/
def PF (x : Val) (kd m : Int) : Prop := x.n 0 = kd ∧ x.n 1 = 1 ∧ x.n 2 = 0 ∧ x.n 4 = m
/-- Both ends are open. -/
structure EP (st : VSt) (own : ByteArray) : Prop where
  tab : (st.get 5 0).n 0 = 3
  a0 : PF (st.get 6 0) 2 1
  b0 : PF (st.get 6 1) 3 2
  p : PHolds st 0 1 1 own
  pt : (st.get 7 0).n 0 = 1
  c : st.get 11 0 = Val.zero
  i : (st.get 9 0).n 0 = 0
theorem EP.has {st : VSt} {own : ByteArray} (H : EP st own) : fHas st 0 = true ∧ fHas st 1 = true := fs_has H.tab
theorem EP.same {st st' : VSt} {own : ByteArray} (H : EP st own) (e : ∀ k n, st'.get k n = st.get k n) : EP st' own :=
  ⟨by rw [e]; exact H.tab, by rw [e]; exact H.a0, by rw [e]; exact H.b0, H.p.same (e _ _) (e _ _), by rw [e]; exact H.pt, by rw [e]; exact H.c, by rw [e]; exact H.i⟩
theorem EP.pipe {st st' : VSt} {own own' : ByteArray} (H : EP st own) (e : ∀ k n, k ≠ 8 → st'.get k n = st.get k n) (p : PHolds st' 0 1 1 own') : EP st' own' :=
  ⟨by rw [e _ _ (by omega)]; exact H.tab, by rw [e _ _ (by omega)]; exact H.a0, by rw [e _ _ (by omega)]; exact H.b0, p, by rw [e _ _ (by omega)]; exact H.pt, by rw [e _ _ (by omega)]; exact H.c, by rw [e _ _ (by omega)]; exact H.i⟩
theorem EP.get1 {st : VSt} {own : ByteArray} (H : EP st own) : fGet st 1 = st.get 6 1 := by unfold fGet; rw [H.has.2, if_pos rfl]
theorem EP.get0 {st : VSt} {own : ByteArray} (H : EP st own) : fGet st 0 = st.get 6 0 := by unfold fGet; rw [H.has.1, if_pos rfl]
/-- The writer is closed; nothing is left in the pipe. -/
structure EQ (st : VSt) : Prop where
  tab : (st.get 5 0).n 0 = 1
  a0 : PF (st.get 6 0) 2 1
  p : PHolds st 0 1 0 ⟨#[]⟩
  pt : (st.get 7 0).n 0 = 1
  c : st.get 11 0 = Val.zero
  i : (st.get 9 0).n 0 = 0
theorem EQ.pipe {st st' : VSt} (H : EQ st) (e : ∀ k n, k ≠ 8 → st'.get k n = st.get k n) (p : PHolds st' 0 1 0 ⟨#[]⟩) : EQ st' :=
  ⟨by rw [e _ _ (by omega)]; exact H.tab, by rw [e _ _ (by omega)]; exact H.a0, p, by rw [e _ _ (by omega)]; exact H.pt, by rw [e _ _ (by omega)]; exact H.c, by rw [e _ _ (by omega)]; exact H.i⟩
/-- Both are closed. -/
structure ER (st : VSt) : Prop where
  tab : (st.get 5 0).n 0 = 0
  pt : (st.get 7 0).n 0 = 0
  c : st.get 11 0 = Val.zero
  i : (st.get 9 0).n 0 = 0
theorem ER.same {st st' : VSt} (H : ER st) (e : ∀ k n, st'.get k n = st.get k n) : ER st' := ⟨by rw [e]; exact H.tab, by rw [e]; exact H.pt, by rw [e]; exact H.c, by rw [e]; exact H.i⟩
theorem has0 {st : VSt} (h : (st.get 5 0).n 0 = 1) : fHas st 0 = true := by unfold fHas; rw [h]; decide

theorem gone7 (st : VSt) (f k n : Int) (h5 : k ≠ 5) (h6 : k ≠ 6) : (fGone st f).get k n = st.get k n := gone_get st f k n (by omega) (by omega)
theorem EP.close {st : VSt} (H : EP st ⟨#[]⟩) : EQ (fClose st 1) := by
  obtain ⟨x0, x1, x2, x4⟩ := H.b0
  have hd := down_n _ x1 (by omega) (by omega)
  unfold fClose
  rw [H.has.2, if_pos rfl, H.get1, hd, if_neg (by omega)]
  have y0 : (fDown (st.get 6 1)).n 0 = 3 := by simpa [fDown, Val.set] using x0
  have y2 : (fDown (st.get 6 1)).n 2 = 0 := by simpa [fDown, Val.set] using x2
  unfold fEnd
  rw [if_neg (by rw [y0]; decide), if_neg (by rw [y0]; decide), if_pos y0, y2]
  have hp : PHolds (fGone st 1) 0 1 1 ⟨#[]⟩ := H.p.same (gone7 _ _ _ _ (by omega) (by omega)) (gone7 _ _ _ _ (by omega) (by omega))
  have he := hp.ends true (-1) 1 0 rfl (by simp [wrap64]) (by decide)
  refine ⟨?_, ?_, he, ?_, ?_, ?_⟩
  · rw [ends_far _ _ _ _ _ _ (by omega) (by omega), gone_tab, H.tab]; kernel_rfl
  · rw [ends_far _ _ _ _ _ _ (by omega) (by omega), gone_get _ _ _ _ (by omega) (by omega)]; exact H.a0
  · have e7 : (pEnds (fGone st 1) 0 true (-1)).get 7 0 = (fGone st 1).get 7 0 := by
      unfold pEnds
      rw [if_neg (by rw [hp.has]; decide), if_neg (by
        have e0 : (pTurn ((fGone st 1).get 8 0) true (-1)).n 0 = 1 := by simp [pTurn, Val.set, hp.r]
        rw [e0]; omega), put8_7, get_pLook]
    rw [e7, gone7 _ _ _ _ (by omega) (by omega)]; exact H.pt
  · rw [ends_far _ _ _ _ _ _ (by omega) (by omega), gone7 _ _ _ _ (by omega) (by omega)]; exact H.c
  · rw [ends_far _ _ _ _ _ _ (by omega) (by omega), gone7 _ _ _ _ (by omega) (by omega)]; exact H.i
theorem EQ.close {st : VSt} (H : EQ st) : ER (fClose st 0) := by
  obtain ⟨x0, x1, x2, x4⟩ := H.a0
  have hd := down_n _ x1 (by omega) (by omega)
  have hh := has0 H.tab
  unfold fClose
  rw [hh, if_pos rfl, show fGet st 0 = st.get 6 0 by unfold fGet; rw [hh, if_pos rfl], hd, if_neg (by omega)]
  have y0 : (fDown (st.get 6 0)).n 0 = 2 := by simpa [fDown, Val.set] using x0
  have y2 : (fDown (st.get 6 0)).n 2 = 0 := by simpa [fDown, Val.set] using x2
  unfold fEnd
  rw [if_neg (by rw [y0]; decide), if_pos y0, y2]
  have hp : PHolds (fGone st 0) 0 1 0 ⟨#[]⟩ := H.p.same (gone7 _ _ _ _ (by omega) (by omega)) (gone7 _ _ _ _ (by omega) (by omega))
  have he := hp.gone false (-1) (by simp [wrap64]) (by simp)
  refine ⟨?_, ?_, ?_, ?_⟩
  · rw [ends_far _ _ _ _ _ _ (by omega) (by omega), gone_tab, H.tab]; kernel_rfl
  · rw [he.1, gone7 _ _ _ _ (by omega) (by omega), H.pt]; kernel_rfl
  · rw [ends_far _ _ _ _ _ _ (by omega) (by omega), gone7 _ _ _ _ (by omega) (by omega)]; exact H.c
  · rw [ends_far _ _ _ _ _ _ (by omega) (by omega), gone7 _ _ _ _ (by omega) (by omega)]; exact H.i

/-- The console is open. -/
structure ED (st : VSt) (x : Val) : Prop where
  tab : (st.get 5 0).n 0 = 1
  a0 : (st.get 6 0).n 0 = 1 ∧ (st.get 6 0).n 2 = 1 ∧ (st.get 6 0).n 4 = 3
  i0 : Holds st 1 3 0 0 ByteArray.empty
  c : st.get 11 0 = x
theorem ED.console {st st' : VSt} {x y : Val} (H : ED st x) (e : ∀ k n, ¬(k = 11 ∧ n = 0) → st'.get k n = st.get k n) (c : st'.get 11 0 = y) : ED st' y :=
  ⟨by rw [e _ _ (by omega)]; exact H.tab, by rw [e _ _ (by omega)]; exact H.a0, by unfold Holds; rw [e _ _ (by omega)]; exact H.i0, c⟩
theorem ED.start {st : VSt} (H : ER st) : ED (fOpen (iAlloc st 3) 1 1 3) Val.zero ∧ iFree st = 1 ∧ fFree (iAlloc st 3) = 0 := by
  have f1 : iFree st = 1 := by unfold iFree; rw [H.i]; decide
  have hh := alloc_same st 3 (by omega) (by omega)
  rw [f1] at hh
  have ht : ((iAlloc st 3).get 5 0).n 0 = 0 := by rw [alloc_far _ _ _ _ (by omega) (by omega)]; exact H.tab
  have f0 : fFree (iAlloc st 3) = 0 := by unfold fFree; rw [ht]; decide
  refine ⟨?_, f1, f0⟩
  unfold fOpen
  rw [f0, if_pos (by decide)]
  unfold fTake
  refine ⟨?_, ?_, ?_, ?_⟩
  · rw [get_put_other _ _ _ _ _ _ (by omega), get_put_same _ _ _ _ place5, ht]; show markI 0 0 = 1; kernel_rfl
  · rw [show ((0 : Nat) : Int) = 0 from rfl, get_put_same _ _ _ _ (place6 0 (by omega) (by omega))]; exact ⟨rfl, rfl, rfl⟩
  · unfold Holds
    rw [get_put_other _ _ _ _ _ _ (by omega), get_put_other _ _ _ _ _ _ (by omega), get_saw]; exact hh
  · rw [get_put_other _ _ _ _ _ _ (by omega), get_put_other _ _ _ _ _ _ (by omega), get_saw, alloc_far _ _ _ _ (by omega) (by omega)]; exact H.c

def ez1 : VSt := fOpen pz1 2 0 1
def ez2 : VSt := fOpen ez1 3 0 2
theorem ep_start : EP ez2 ⟨#[]⟩ := by
  refine ⟨by kernel_rfl, ⟨by kernel_rfl, by kernel_rfl, by kernel_rfl, by kernel_rfl⟩, ⟨by kernel_rfl, by kernel_rfl, by kernel_rfl, by kernel_rfl⟩, ⟨by kernel_rfl, by kernel_rfl, by kernel_rfl, by kernel_rfl⟩, by kernel_rfl, ?_, by kernel_rfl⟩
  unfold ez2 ez1
  have e : ∀ st : VSt, ∀ a b c : Int, (fOpen st a b c).get 11 0 = st.get 11 0 := fun st a b c => by
    unfold fOpen
    split
    · unfold fTake; rw [get_put_other _ _ _ _ _ _ (by omega), get_put_other _ _ _ _ _ _ (by omega), get_saw]
    · exact get_saw _ _ _ _ _
  rw [e, e]
  unfold pz1 pAlloc
  split
  · rw [get_put_other _ _ _ _ _ _ (by omega), get_pMark _ _ _ _ _ (by omega), get_saw]; show (_ : Val) = _; kernel_rfl
  · rw [get_saw]; show (_ : Val) = _; kernel_rfl

section
variable {w W : World} {t : Nat} {L : Lay} {d q : Nat} {st : VSt}
theorem e_open1 (S : Std w t L d q pz1 W) : Calls Try.prog 11 #[.pointer (some ⟨L.v, 0, none⟩), .int .i64 2, .int .i64 0, .int .i64 1] W fun e W' => e = .returned (.tuple #[.int .i64 0, .bool true]) ∧ Std w t L d q ez1 W' := by
  have h := sf_open S 2 0 1
  rw [show fNum pz1 = 0 by kernel_rfl, show decide (fFree pz1 < 12) = true by kernel_rfl] at h
  exact h.mono fun e W' ⟨a, b, _⟩ => ⟨a, b⟩
theorem e_open2 (S : Std w t L d q ez1 W) : Calls Try.prog 11 #[.pointer (some ⟨L.v, 0, none⟩), .int .i64 3, .int .i64 0, .int .i64 2] W fun e W' => e = .returned (.tuple #[.int .i64 1, .bool true]) ∧ ∃ st', EP st' ⟨#[]⟩ ∧ Std w t L d q st' W' := by
  have h := sf_open S 3 0 2
  rw [show fNum ez1 = 1 by kernel_rfl, show decide (fFree ez1 < 12) = true by kernel_rfl] at h
  exact h.mono fun e W' ⟨a, b, _⟩ => ⟨a, _, ep_start, b⟩
theorem e_write {D : ByteArray} (S : Std w t L d q st W) (H : EP st ⟨#[]⟩) (h1 : 0 < D.size) (h2 : D.size ≤ 16) : Calls Try.prog 15 #[.pointer (some ⟨L.v, 0, none⟩), .int .i64 1, .string D] W fun e W' => e = .returned (.tuple #[.int .i64 D.size, .int .i64 0]) ∧ ∃ st', EP st' D ∧ Std w t L d q st' W' := by
  obtain ⟨x0, x1, x2, x4⟩ := H.b0
  have H' := H.same (get_fGot st 1)
  obtain ⟨k1, k2, k3⟩ := H'.p.write D (by decide) h1 (by decide)
  rw [give_all _ _ (by show (D.size : Int) ≤ 16 - (0 : Nat); omega)] at k1 k2
  have h := fwrite_pipe L st 1 D H.has.2 (by rw [H.get1, x4]; decide) (by rw [H.get1]; exact x0) 0 (by rw [H.get1]; exact x2) (by rw [H'.p.s]; decide) (by omega) W S.v
  rw [k2, k3] at h
  rw [show (⟨#[]⟩ : ByteArray) ++ D = D from ByteArray.empty_append] at k1
  exact h.mono fun e W' ⟨a, b, c⟩ => ⟨a, _, H'.pipe (fun k n hk => writeV_far _ _ _ _ _ hk) k1, S.step b c⟩
theorem e_readall {D : ByteArray} (S : Std w t L d q st W) (H : EP st D) (h1 : 0 < D.size) (h2 : D.size ≤ 16) : Calls Try.prog 12 #[.pointer (some ⟨L.v, 0, none⟩), .int .i64 0, .int .i64 99] W fun e W' => e = .returned (.tuple #[.string D, .int .i64 0]) ∧ ∃ st', EP st' ⟨#[]⟩ ∧ Std w t L d q st' W' := by
  obtain ⟨x0, x1, x2, x4⟩ := H.a0
  have H' := H.same (get_fs1 st 0)
  obtain ⟨k1, k2, k3⟩ := H'.p.read 99 (by decide)
  have e1 : pTook D 99 = D := by
    unfold pTook; rw [show (min (99 : Int) D.size).toNat = D.size by omega]; exact ByteArray.extract_zero_size
  have e2 : pLeft D 99 = ⟨#[]⟩ := by
    unfold pLeft; rw [show (min (99 : Int) D.size).toNat = D.size by omega]; apply ByteArray.ext; simp
  rw [e2] at k1
  have h := fread_pipe L st 0 99 H.has.1 (by decide) (by rw [x4]; decide) x0 0 x2 W S.v
  rw [k2, k3, e1, if_neg (by omega)] at h
  exact h.mono fun e W' ⟨a, b, c⟩ => ⟨a, _, H'.pipe (fun k n hk => readV_far _ _ _ _ _ hk) k1, S.step b c⟩
theorem left_none (n : Int) : pLeft ⟨#[]⟩ n = ⟨#[]⟩ := by unfold pLeft; apply ByteArray.ext; simp
theorem took_none (n : Int) : pTook ⟨#[]⟩ n = ⟨#[]⟩ := by unfold pTook; apply ByteArray.ext; simp
theorem e_wait (S : Std w t L d q st W) (H : EP st ⟨#[]⟩) : Calls Try.prog 12 #[.pointer (some ⟨L.v, 0, none⟩), .int .i64 0, .int .i64 1] W fun e W' => e = .returned (.tuple #[.string ⟨#[]⟩, .int .i64 2]) ∧ ∃ st', EP st' ⟨#[]⟩ ∧ Std w t L d q st' W' := by
  obtain ⟨x0, x1, x2, x4⟩ := H.a0
  have H' := H.same (get_fs1 st 0)
  obtain ⟨k1, k2, k3⟩ := H'.p.read 1 (by decide)
  rw [left_none] at k1
  have h := fread_pipe L st 0 1 H.has.1 (by decide) (by rw [x4]; decide) x0 0 x2 W S.v
  rw [k2, k3, took_none, if_pos ⟨rfl, by decide⟩] at h
  exact h.mono fun e W' ⟨a, b, c⟩ => ⟨a, _, H'.pipe (fun k n hk => readV_far _ _ _ _ _ hk) k1, S.step b c⟩
theorem e_bad (S : Std w t L d q st W) (H : EP st ⟨#[]⟩) (D : ByteArray) : Calls Try.prog 15 #[.pointer (some ⟨L.v, 0, none⟩), .int .i64 0, .string D] W fun e W' => e = .returned (.tuple #[.int .i64 (-1), .int .i64 1]) ∧ ∃ st', EP st' ⟨#[]⟩ ∧ Std w t L d q st' W' := by
  obtain ⟨x0, x1, x2, x4⟩ := H.a0
  have h := fwrite_bad L st 0 D (Or.inr ⟨H.has.1, by rw [H.get0, x4]; decide⟩) W S.v
  exact h.mono fun e W' ⟨a, b, c⟩ => ⟨a, _, H.same (get_fGot st 0), S.step b c⟩
theorem e_odd (S : Std w t L d q st W) (H : EP st ⟨#[]⟩) : Calls Try.prog 12 #[.pointer (some ⟨L.v, 0, none⟩), .int .i64 1, .int .i64 1] W fun e W' => e = .returned (.tuple #[.string ByteArray.empty, .int .i64 1]) ∧ ∃ st', EP st' ⟨#[]⟩ ∧ Std w t L d q st' W' := by
  obtain ⟨x0, x1, x2, x4⟩ := H.b0
  have h := fread_mode L st 1 1 H.has.2 (by decide) (by rw [x4]; decide) W S.v
  exact h.mono fun e W' ⟨a, b, c⟩ => ⟨a, _, H.same (get_fs1 st 1), S.step b c⟩
theorem e_close1 (S : Std w t L d q st W) (H : EP st ⟨#[]⟩) : Calls Try.prog 14 #[.pointer (some ⟨L.v, 0, none⟩), .int .i64 1] W fun e W' => e = .returned (.bool true) ∧ ∃ st', EQ st' ∧ Std w t L d q st' W' := by
  have h := sf_close S 1
  rw [H.has.2] at h
  exact h.mono fun e W' ⟨a, b, _⟩ => ⟨a, _, H.close, b⟩
theorem e_end (S : Std w t L d q st W) (H : EQ st) : Calls Try.prog 12 #[.pointer (some ⟨L.v, 0, none⟩), .int .i64 0, .int .i64 1] W fun e W' => e = .returned (.tuple #[.string ⟨#[]⟩, .int .i64 0]) ∧ ∃ st', EQ st' ∧ Std w t L d q st' W' := by
  obtain ⟨x0, x1, x2, x4⟩ := H.a0
  have H' : EQ (fs1 st 0) := H.pipe (fun k n _ => get_fs1 st 0 k n) (H.p.same (get_fs1 _ _ _ _) (get_fs1 _ _ _ _))
  obtain ⟨k1, k2, k3⟩ := H'.p.read 1 (by decide)
  rw [left_none] at k1
  have h := fread_pipe L st 0 1 (has0 H.tab) (by decide) (by rw [x4]; decide) x0 0 x2 W S.v
  rw [k2, k3, took_none, if_neg (by rintro ⟨_, z⟩; exact absurd z (by decide))] at h
  exact h.mono fun e W' ⟨a, b, c⟩ => ⟨a, _, H'.pipe (fun k n hk => readV_far _ _ _ _ _ hk) k1, S.step b c⟩
theorem e_close0 (S : Std w t L d q st W) (H : EQ st) : Calls Try.prog 14 #[.pointer (some ⟨L.v, 0, none⟩), .int .i64 0] W fun e W' => e = .returned (.bool true) ∧ ∃ st', ER st' ∧ Std w t L d q st' W' := by
  have h := sf_close S 0
  rw [has0 H.tab] at h
  exact h.mono fun e W' ⟨a, b, _⟩ => ⟨a, _, H.close, b⟩
theorem e_pis (S : Std w t L d q st W) (H : ER st) : Calls Try.prog 23 #[.pointer (some ⟨L.v, 0, none⟩), .int .i64 0] W fun e W' => e = .returned (.bool false) ∧ ∃ st', ER st' ∧ Std w t L d q st' W' := by
  have h := sp_is S 0
  rw [show pHas st 0 = false by unfold pHas; rw [H.pt]; decide] at h
  exact h.mono fun e W' ⟨a, b, _⟩ => ⟨a, _, H.same (get_pSaw st 0), b⟩
theorem e_alloc (S : Std w t L d q st W) (H : ER st) : Calls Try.prog 8 #[.pointer (some ⟨L.v, 0, none⟩), .int .i64 3] W fun e W' => e = .returned (.tuple #[.int .i64 1, .bool true]) ∧ ∃ st', (fFree st' = 0 ∧ ED (fOpen st' 1 1 3) Val.zero) ∧ Std w t L d q st' W' := by
  obtain ⟨k, f1, f0⟩ := ED.start H
  have h := s_alloc S 3
  unfold iGot at h
  rw [f1, if_pos (by decide), decide_eq_true (by decide : 1 < 16)] at h
  exact h.mono fun e W' ⟨a, b, _⟩ => ⟨a, _, ⟨f0, k⟩, b⟩
theorem e_open (S : Std w t L d q st W) (H : fFree st = 0 ∧ ED (fOpen st 1 1 3) Val.zero) : Calls Try.prog 11 #[.pointer (some ⟨L.v, 0, none⟩), .int .i64 1, .int .i64 1, .int .i64 3] W fun e W' => e = .returned (.tuple #[.int .i64 0, .bool true]) ∧ ∃ st', ED st' Val.zero ∧ Std w t L d q st' W' := by
  have h := sf_open S 1 1 3
  unfold fNum at h
  rw [H.1, if_pos (by decide), decide_eq_true (by decide : 0 < 12)] at h
  exact h.mono fun e W' ⟨a, b, _⟩ => ⟨a, _, H.2, b⟩
theorem e_get {x : Val} (S : Std w t L d q st W) (H : ED st x) : Calls Try.prog 24 #[.pointer (some ⟨L.v, 0, none⟩), keyV 11 0] W fun e W' => e = .returned (.agg x.cells) ∧ ∃ st', ED st' x ∧ Std w t L d q st' W' := by
  have h := vget_any L st 11 0 W S.v
  rw [H.c] at h
  exact h.mono fun e W' ⟨a, b, c⟩ => ⟨a, _, H.console (fun k n _ => get_saw _ _ _ _ _) (by rw [get_saw]; exact H.c), S.step b (c.mono fun _ _ => Or.inl)⟩
theorem e_put {x : Val} (S : Std w t L d q st W) (H : ED st x) (y : Val) : Calls Try.prog 25 #[.pointer (some ⟨L.v, 0, none⟩), keyV 11 0, .agg y.cells] W fun e W' => e = .returned (.tuple #[]) ∧ ∃ st', ED st' y ∧ Std w t L d q st' W' :=
  (vput_any L st 11 0 y W S.v).mono fun e W' ⟨a, b, c⟩ => ⟨a, _, H.console (fun k n hk => get_put_other _ _ _ _ _ _ hk) (get_put_same _ _ _ _ (by decide)), S.step b (c.mono fun _ _ => Or.inr)⟩
theorem e_read {x : Val} (S : Std w t L d q st W) (H : ED st x) (n : Int) (hn : 0 < n) (R : ByteArray) (y : Int) (hR : (R = pTook x.s n ∧ y = 0 ∧ 0 < x.s.size) ∨ (R = ⟨#[]⟩ ∧ y = 2 ∧ x.s = ⟨#[]⟩)) : Calls Try.prog 12 #[.pointer (some ⟨L.v, 0, none⟩), .int .i64 0, .int .i64 n] W fun e W' => e = .returned (.tuple #[.string R, .int .i64 y]) ∧ ∃ st' z, ED st' (x.text z) ∧ Std w t L d q st' W' := by
  obtain ⟨x0, x2, x4⟩ := H.a0
  have H1 : Holds (fs1 st 0) 1 3 0 0 ByteArray.empty := by unfold Holds; rw [get_fs1]; exact H.i0
  have h := fread_dev L st 0 n (has0 H.tab) hn (by rw [x4]; decide) x0 (by rw [x2]; exact (holds_val H1 (by decide) (by decide) (by decide)).2.2.2.2)
    (by rw [x2]; exact (holds_val (holds_saw H1 1) (by decide) (by decide) (by decide)).2.1) x H.c R y hR W S.v
  exact h.mono fun e W' ⟨a, st', b, g, ⟨z, c⟩, m⟩ => ⟨a, st', z, H.console g c, S.step b m⟩
theorem e_shown {x : Val} (S : Std w t L d q st W) (H : ED st x) (D : ByteArray) (hD : D.size ≤ 1000) : Calls Try.prog 15 #[.pointer (some ⟨L.v, 0, none⟩), .int .i64 0, .string D] W fun e W' => e = .returned (.tuple #[.int .i64 D.size, .int .i64 0]) ∧ ∃ st' y, ED st' (consN x D.size y) ∧ Std w t L d q st' W' := by
  obtain ⟨x0, x2, x4⟩ := H.a0
  have hg : fGet st 0 = st.get 6 0 := by unfold fGet; rw [has0 H.tab, if_pos rfl]
  have H1 : Holds (fGot st 0) 1 3 0 0 ByteArray.empty := by unfold Holds; rw [get_fGot]; exact H.i0
  have h := fwrite_dev L st 0 D (has0 H.tab) (by rw [hg, x4]; decide) (by rw [hg]; exact x0) (by rw [hg, x2]; exact (holds_val H1 (by decide) (by decide) (by decide)).2.2.2.2)
    (by rw [hg, x2]; exact (holds_val (holds_saw H1 1) (by decide) (by decide) (by decide)).2.1) x H.c hD W S.v
  exact h.mono fun e W' ⟨a, st', b, g, ⟨y, c⟩, m⟩ => ⟨a, st', y, H.console g c, S.step b m⟩
end
end Go.Proofs.Ytdlcbclfniahoaa.St
