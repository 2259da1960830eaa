/- What pipes hold behind each call, in plain Lean. No condition but those written in each statement. -/
import Derived.Test.YtdlcbclfniahoaaPipS
namespace Go.Proofs.Ytdlcbclfniahoaa.St
open Go.RowKit
set_option linter.unusedVariables false

theorem get_pSaw (st : VSt) (i k n : Int) : (pSaw st i).get k n = st.get k n := by
  unfold pSaw; split
  · rfl
  · exact get_saw _ _ _ _ _
theorem get_pLook (st : VSt) (i k n : Int) : (pLook st i).get k n = st.get k n := by
  unfold pLook; rw [get_saw, get_pSaw]
theorem place8 (i : Int) (h1 : 0 ≤ i) (h2 : i < 4) : 0 ≤ placeI 8 i := by
  have : i = 0 ∨ i = 1 ∨ i = 2 ∨ i = 3 := by omega
  rcases this with rfl | rfl | rfl | rfl <;> decide
theorem place7 : 0 ≤ placeI 7 0 := by decide

theorem pHas_of {st st' : VSt} (h : st'.get 7 0 = st.get 7 0) (i : Int) : pHas st' i = pHas st i := by unfold pHas; rw [h]
theorem pHas_out (st : VSt) (i : Int) (h : i < 0 ∨ 4 ≤ i) : pHas st i = false := by unfold pHas; rw [if_pos h]

theorem get_pMark (st : VSt) (j : Nat) (on : Bool) (k n : Int) (h : ¬(k = 7 ∧ n = 0)) : (pMark st j on).get k n = st.get k n := by
  unfold pMark; rw [get_put_other _ _ _ _ _ _ h, get_saw]
theorem used_pMark (st : VSt) (j : Nat) (on : Bool) : ((pMark st j on).get 7 0).n 0 = pMarkI ((st.get 7 0).n 0) j on := by
  unfold pMark; rw [get_put_same _ _ _ _ place7]; simp [Val.set]

/-- A pipe that is there, and what it holds. -/
structure PHolds (st : VSt) (i : Int) (r w : Int) (s : ByteArray) : Prop where
  has : pHas st i = true
  r : (st.get 8 i).n 0 = r
  w : (st.get 8 i).n 1 = w
  s : (st.get 8 i).s = s

theorem PHolds.same {st st' : VSt} {i r w : Int} {s : ByteArray} (H : PHolds st i r w s) (h7 : st'.get 7 0 = st.get 7 0) (h8 : st'.get 8 i = st.get 8 i) : PHolds st' i r w s :=
  ⟨(pHas_of h7 i).trans H.has, by rw [h8]; exact H.r, by rw [h8]; exact H.w, by rw [h8]; exact H.s⟩
theorem PHolds.of {st : VSt} {i r w : Int} {s : ByteArray} {y : Val} (hh : pHas st i = true) (hy : st.get 8 i = y) (h0 : y.n 0 = r) (h1 : y.n 1 = w) (hs : y.s = s) : PHolds st i r w s :=
  ⟨hh, by rw [hy, h0], by rw [hy, h1], by rw [hy, hs]⟩
theorem PHolds.saw {st : VSt} {i r w : Int} {s : ByteArray} (H : PHolds st i r w s) (j : Int) : PHolds (pSaw st j) i r w s := H.same (get_pSaw _ _ _ _) (get_pSaw _ _ _ _)

theorem put8_7 (st : VSt) (i : Int) (y : Val) : (st.put 8 i y).get 7 0 = st.get 7 0 := get_put_other _ _ _ _ _ _ (by omega)

/-- Read. -/
theorem PHolds.read {st : VSt} {i r w : Int} {s : ByteArray} (H : PHolds st i r w s) (n : Int) (hn : 0 < n) :
    PHolds (pReadV st i n) i r w (pLeft s n) ∧ pRead st i n = pTook s n ∧ pReadS st i n = if s.size = 0 ∧ 0 < w then 2 else 0 := by
  obtain ⟨i1, i2⟩ := phas_in H.has
  have c : ¬(pHas st i = false ∨ n < 0) := by rw [H.has]; rintro (e | e); exact absurd e (by decide); omega
  unfold pReadV pRead pReadS
  rw [if_neg c, if_neg c, if_neg c, H.s, H.w]
  by_cases hs : 0 < s.size
  · rw [if_pos ⟨hn, hs⟩, if_pos ⟨hn, hs⟩, if_neg (by omega), if_neg (by omega)]
    refine ⟨?_, rfl, rfl⟩
    refine PHolds.of ?_ (get_put_same _ _ _ _ (place8 i i1 i2)) ?_ ?_ rfl
    · rw [pHas_of (put8_7 _ _ _), pHas_of (get_pLook _ _ _ _)]; exact H.has
    · exact H.r
    · exact H.w
  · have hz : s = ⟨#[]⟩ := size_none (by omega)
    subst hz
    rw [if_neg (by omega), if_neg (by omega)]
    have e1 : pLeft ⟨#[]⟩ n = ⟨#[]⟩ := by unfold pLeft; apply ByteArray.ext; simp
    have e2 : pTook ⟨#[]⟩ n = ⟨#[]⟩ := by unfold pTook; apply ByteArray.ext; simp
    refine ⟨by rw [e1]; exact H.same (get_pLook _ _ _ _) (get_pLook _ _ _ _), e2.symm, ?_⟩
    by_cases hw : 0 < w
    · rw [if_pos ⟨hn, rfl, hw⟩, if_pos ⟨rfl, hw⟩]
    · rw [if_neg (by omega), if_neg (by omega)]

theorem took_left (s : ByteArray) (n : Int) : pTook s n ++ pLeft s n = s := by
  unfold pTook pLeft
  rw [ByteArray.extract_append_extract]
  simp
theorem took_size (s : ByteArray) (n : Int) (hn : 0 ≤ n) : ((pTook s n).size : Int) = min n s.size := by
  unfold pTook; rw [ByteArray.size_extract]; omega
theorem left_size (s : ByteArray) (n : Int) (hn : 0 ≤ n) : ((pLeft s n).size : Int) = s.size - min n s.size := by
  unfold pLeft; rw [ByteArray.size_extract]; omega

/-- Write. -/
theorem PHolds.write {st : VSt} {i r w : Int} {s : ByteArray} (H : PHolds st i r w s) (D : ByteArray) (hr : 0 < r) (hD : 0 < D.size) (hs : s.size ≤ 16) :
    PHolds (pWriteV st i D) i r w (s ++ pGive s D) ∧ (pWrote st i D).1 = (pGive s D).size ∧ (pWrote st i D).2 = if s.size = 16 then 2 else 0 := by
  obtain ⟨i1, i2⟩ := phas_in H.has
  have c : ¬(pHas st i = false) := by rw [H.has]; decide
  unfold pWriteV pWrote
  rw [if_neg c, if_neg c]
  by_cases hm : s.size < 16
  · have m : pMay st i D := ⟨H.has, by rw [H.r]; exact hr, hD, by rw [H.s]; omega⟩
    rw [if_pos m, if_pos m, H.s, if_neg (by omega)]
    refine ⟨?_, rfl, rfl⟩
    refine PHolds.of ?_ (get_put_same _ _ _ _ (place8 i i1 i2)) ?_ ?_ rfl
    · rw [pHas_of (put8_7 _ _ _), pHas_of (get_pLook _ _ _ _)]; exact H.has
    · exact H.r
    · exact H.w
  · have m : ¬ pMay st i D := by rintro ⟨_, _, _, h⟩; rw [H.s] at h; omega
    have hf : s.size = 16 := by omega
    have e1 : pGive s D = ⟨#[]⟩ := by unfold pGive; rw [hf]; apply ByteArray.ext; simp; omega
    rw [if_neg m, if_neg m, if_pos hf, e1]
    have e2 : pNay (st.get 8 i) D = (0, 2) := by unfold pNay; rw [H.r, if_neg (by omega), if_neg (by omega)]
    rw [e2]
    refine ⟨?_, rfl, rfl⟩
    have e3 : s ++ (⟨#[]⟩ : ByteArray) = s := ByteArray.append_empty
    rw [e3]
    exact H.same (get_pLook _ _ _ _) (get_pLook _ _ _ _)
theorem give_size (s D : ByteArray) (hs : s.size ≤ 16) : ((pGive s D).size : Int) = min (D.size : Int) (16 - s.size) := by
  unfold pGive; rw [ByteArray.size_extract]; omega

/-- Ends, where some stay. -/
theorem PHolds.ends {st : VSt} {i r w : Int} {s : ByteArray} (H : PHolds st i r w s) (wr : Bool) (k r' w' : Int) (hr : r' = if wr then r else wrap64 (r + k)) (hw : w' = if wr then wrap64 (w + k) else w) (hk : ¬(r' ≤ 0 ∧ w' ≤ 0)) :
    PHolds (pEnds st i wr k) i r' w' s := by
  obtain ⟨i1, i2⟩ := phas_in H.has
  have e0 : (pTurn (st.get 8 i) wr k).n 0 = r' := by cases wr <;> simp [pTurn, Val.set, H.r, hr]
  have e1 : (pTurn (st.get 8 i) wr k).n 1 = w' := by cases wr <;> simp [pTurn, Val.set, H.w, hw]
  have es : (pTurn (st.get 8 i) wr k).s = s := by cases wr <;> simp [pTurn, Val.set, H.s]
  unfold pEnds
  rw [if_neg (by rw [H.has]; decide), if_neg (by rw [e0, e1]; exact hk)]
  refine PHolds.of ?_ (get_put_same _ _ _ _ (place8 i i1 i2)) e0 e1 es
  rw [pHas_of (put8_7 _ _ _), pHas_of (get_pLook _ _ _ _)]; exact H.has
theorem PHolds.gone {st : VSt} {i r w : Int} {s : ByteArray} (H : PHolds st i r w s) (wr : Bool) (k : Int) (hr : (if wr then r else wrap64 (r + k)) ≤ 0) (hw : (if wr then wrap64 (w + k) else w) ≤ 0) :
    ((pEnds st i wr k).get 7 0).n 0 = unmarkN ((st.get 7 0).n 0) i.toNat ∧ ∀ j, j ≠ i → (pEnds st i wr k).get 8 j = st.get 8 j := by
  have e0 : (pTurn (st.get 8 i) wr k).n 0 = if wr then r else wrap64 (r + k) := by cases wr <;> simp [pTurn, Val.set, H.r]
  have e1 : (pTurn (st.get 8 i) wr k).n 1 = if wr then wrap64 (w + k) else w := by cases wr <;> simp [pTurn, Val.set, H.w]
  unfold pEnds
  rw [if_neg (by rw [H.has]; decide), if_pos ⟨by rw [e0]; exact hr, by rw [e1]; exact hw⟩]
  unfold pGone
  refine ⟨?_, fun j hj => ?_⟩
  · rw [put8_7, used_pMark, get_pLook]; rfl
  · rw [get_put_other _ _ _ _ _ _ (by omega), get_pMark _ _ _ _ _ (by omega), get_pLook]
end Go.Proofs.Ytdlcbclfniahoaa.St
