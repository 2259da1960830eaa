/- What FileShares' calls answer and leave. No condition but those written in each statement. -/
import Derived.Test.YtdlcbclfniahoaaFilW
import Derived.Test.YtdlcbclfniahoaaFilR
namespace Go.Proofs.Ytdlcbclfniahoaa.St
open Go.RowKit
set_option linter.unusedVariables false

theorem place5 : 0 ≤ placeI 5 0 := by decide
theorem place6 (f : Int) (h1 : 0 ≤ f) (h2 : f < 2) : 0 ≤ placeI 6 f := by
  rcases (show f = 0 ∨ f = 1 by omega) with rfl | rfl <;> decide
theorem change_far (st : VSt) (i l h k n : Int) (h9 : k ≠ 9) (h10 : k ≠ 10) : (iChange st i l h).get k n = st.get k n := by
  unfold iChange
  split
  · exact get_iSaw _ _ _ _
  · split
    · rw [get_put_other _ _ _ _ _ _ (by omega), get_put_other _ _ _ _ _ _ (by omega), get_saw, get_iSaw]
    · rw [get_put_other _ _ _ _ _ _ (by omega), get_iSaw]
theorem get_fGot (st : VSt) (f k n : Int) : (fGot st f).get k n = st.get k n := by
  unfold fGot; split
  · rw [get_saw, fSaw_get]
  · exact fSaw_get _ _ _ _
theorem get_fs1 (st : VSt) (f k n : Int) : (fs1 st f).get k n = st.get k n := by unfold fs1; rw [get_saw, fSaw_get]

/-- An open file's numbers. -/
def OF (x : Val) (h at' m : Int) : Prop := x.n 0 = 1 ∧ x.n 1 = h ∧ x.n 2 = 1 ∧ x.n 3 = at' ∧ x.n 4 = m
/-- The two files of the law: held h times the first, at a and b. -/
structure FS (st : VSt) (own : ByteArray) (a b h : Nat) : Prop where
  tab : (st.get 5 0).n 0 = 3
  a0 : OF (st.get 6 0) h a 3
  b0 : OF (st.get 6 1) 1 b 1
  i0 : Holds st 1 2 0 2 own
theorem FS.same {st st' : VSt} {own : ByteArray} {a b h : Nat} (H : FS st own a b h) (e5 : st'.get 5 0 = st.get 5 0) (e0 : st'.get 6 0 = st.get 6 0) (e1 : st'.get 6 1 = st.get 6 1) (ei : st'.get 10 1 = st.get 10 1) : FS st' own a b h :=
  ⟨by rw [e5]; exact H.tab, by rw [e0]; exact H.a0, by rw [e1]; exact H.b0, by unfold Holds; rw [ei]; exact H.i0⟩
theorem fs_has {st : VSt} (h : (st.get 5 0).n 0 = 3) : fHas st 0 = true ∧ fHas st 1 = true := by
  unfold fHas
  rw [h]
  exact ⟨by decide, by decide⟩
theorem FS.has {st : VSt} {own : ByteArray} {a b h : Nat} (H : FS st own a b h) : fHas st 0 = true ∧ fHas st 1 = true := fs_has H.tab
theorem FS.get0 {st : VSt} {own : ByteArray} {a b h : Nat} (H : FS st own a b h) : fGet st 0 = st.get 6 0 := by unfold fGet; rw [H.has.1, if_pos rfl]
theorem FS.get1 {st : VSt} {own : ByteArray} {a b h : Nat} (H : FS st own a b h) : fGet st 1 = st.get 6 1 := by unfold fGet; rw [H.has.2, if_pos rfl]
theorem wrap_id (x : Int) (h0 : -1000000 ≤ x) (h1 : x ≤ 1000000) : wrap64 x = x := by unfold wrap64; omega

theorem fs_dup {st : VSt} {own : ByteArray} {a b h : Nat} (H : FS st own a b h) (hh : h ≤ 100) : FS (fDup st 0) own a b (h + 1) := by
  unfold fDup
  rw [H.has.1, if_pos rfl, H.get0]
  obtain ⟨x0, x1, x2, x3, x4⟩ := H.a0
  refine ⟨?_, ?_, ?_, ?_⟩
  · rw [get_put_other _ _ _ _ _ _ (by omega), get_fGot]; exact H.tab
  · rw [get_put_same _ _ _ _ (place6 0 (by omega) (by omega))]
    unfold OF fUp
    simp only [Val.set]
    refine ⟨by simpa using x0, ?_, by simpa using x2, by simpa using x3, by simpa using x4⟩
    simp only [if_true]
    rw [x1, wrap_id _ (by omega) (by omega)]; omega
  · rw [get_put_other _ _ _ _ _ _ (by omega), get_fGot]; exact H.b0
  · unfold Holds; rw [get_put_other _ _ _ _ _ _ (by omega), get_fGot]; exact H.i0

theorem fs_read0 {st : VSt} {own : ByteArray} {a b h : Nat} (H : FS st own a b h) (ha : a ≤ 1000) (ho : own.size ≤ 1000) (n : Int) :
    fRd st 0 n = readB own a n ∧ FS (fRdV st 0 n) own (a + (readB own a n).size) b h := by
  obtain ⟨x0, x1, x2, x3, x4⟩ := H.a0
  have hr : fRd st 0 n = readB own a n := by
    unfold fRd
    rw [x2, x3]
    have h2 : Holds (iSaw (iSaw (fs1 st 0) 1) 1) 1 2 0 2 own := holds_saw (holds_saw (by unfold Holds; rw [get_fs1]; exact H.i0) 1) 1
    exact holds_read h2 (by decide) (by decide) (by decide) a n
  refine ⟨hr, ?_⟩
  have hsz : (readB own a n).size ≤ own.size := by
    unfold readB; split
    · exact Nat.zero_le _
    · rw [ByteArray.size_extract]; omega
  unfold fRdV
  rw [x2, hr]
  refine ⟨?_, ?_, ?_, ?_⟩
  · rw [get_put_other _ _ _ _ _ _ (by omega), get_iSaw, get_iSaw, get_iSaw, get_fs1]; exact H.tab
  · rw [get_put_same _ _ _ _ (place6 0 (by omega) (by omega))]
    unfold OF fOn
    simp only [Val.set]
    refine ⟨by simpa using x0, by simpa using x1, by simpa using x2, ?_, by simpa using x4⟩
    simp only [if_true]
    rw [x3, wrap_id _ (by omega) (by omega)]; omega
  · rw [get_put_other _ _ _ _ _ _ (by omega), get_iSaw, get_iSaw, get_iSaw, get_fs1]; exact H.b0
  · unfold Holds; rw [get_put_other _ _ _ _ _ _ (by omega), get_iSaw, get_iSaw, get_iSaw, get_fs1]; exact H.i0
theorem fs_read1 {st : VSt} {own : ByteArray} {a b h : Nat} (H : FS st own a b h) (ha : b ≤ 1000) (ho : own.size ≤ 1000) (n : Int) :
    fRd st 1 n = readB own b n ∧ FS (fRdV st 1 n) own a (b + (readB own b n).size) h := by
  obtain ⟨x0, x1, x2, x3, x4⟩ := H.b0
  have hr : fRd st 1 n = readB own b n := by
    unfold fRd
    rw [x2, x3]
    have h2 : Holds (iSaw (iSaw (fs1 st 1) 1) 1) 1 2 0 2 own := holds_saw (holds_saw (by unfold Holds; rw [get_fs1]; exact H.i0) 1) 1
    exact holds_read h2 (by decide) (by decide) (by decide) b n
  refine ⟨hr, ?_⟩
  have hsz : (readB own b n).size ≤ own.size := by
    unfold readB; split
    · exact Nat.zero_le _
    · rw [ByteArray.size_extract]; omega
  unfold fRdV
  rw [x2, hr]
  refine ⟨?_, ?_, ?_, ?_⟩
  · rw [get_put_other _ _ _ _ _ _ (by omega), get_iSaw, get_iSaw, get_iSaw, get_fs1]; exact H.tab
  · rw [get_put_other _ _ _ _ _ _ (by omega), get_iSaw, get_iSaw, get_iSaw, get_fs1]; exact H.a0
  · rw [get_put_same _ _ _ _ (place6 1 (by omega) (by omega))]
    unfold OF fOn
    simp only [Val.set]
    refine ⟨by simpa using x0, by simpa using x1, by simpa using x2, ?_, by simpa using x4⟩
    simp only [if_true]
    rw [x3, wrap_id _ (by omega) (by omega)]; omega
  · unfold Holds; rw [get_put_other _ _ _ _ _ _ (by omega), get_iSaw, get_iSaw, get_iSaw, get_fs1]; exact H.i0

theorem fs_write {st : VSt} {own : ByteArray} {a b h : Nat} (H : FS st own a b h) (ha : a ≤ own.size) (ho : own.size ≤ 128) (D : ByteArray) (hD : D.size ≤ 1000) :
    fWn st 0 D = (iPart D a).size ∧ FS (fWV st 0 D) (iOver own a (iPart D a)) (a + (iPart D a).size) b h ∧ FS (fWi st 0 D) (iOver own a (iPart D a)) a b h := by
  obtain ⟨x0, x1, x2, x3, x4⟩ := H.a0
  have hs : ∀ k n, (fWs st 0).get k n = st.get k n := by intro k n; unfold fWs; rw [get_iSaw, get_iSaw, get_fGot]
  have hH : Holds (fWs st 0) 1 2 0 2 own := by unfold Holds; rw [hs]; exact H.i0
  obtain ⟨k1, k2⟩ := holds_write hH (by decide) (by decide) (by decide) (a : Int) D (by omega) (by omega) (by omega)
  have eW : fWi st 0 D = iWrite (fWs st 0) 1 a D := by unfold fWi; rw [H.get0, x2, x3]
  have eN : fWn st 0 D = (iPart D a).size := by unfold fWn; rw [H.get0, x2, x3]; exact k2
  have hps := part_size D (a : Int) (by omega)
  have g5 : (fWi st 0 D).get 5 0 = st.get 5 0 := by rw [eW, get_iWrite_other _ _ _ _ _ _ (by omega), hs]
  have g60 : (fWi st 0 D).get 6 0 = st.get 6 0 := by rw [eW, get_iWrite_other _ _ _ _ _ _ (by omega), hs]
  have g61 : (fWi st 0 D).get 6 1 = st.get 6 1 := by rw [eW, get_iWrite_other _ _ _ _ _ _ (by omega), hs]
  rw [← eW] at k1
  refine ⟨eN, ?_, ⟨by rw [g5]; exact H.tab, by rw [g60]; exact H.a0, by rw [g61]; exact H.b0, k1⟩⟩
  unfold fWV
  rw [H.get0, eN]
  refine ⟨?_, ?_, ?_, ?_⟩
  · rw [get_put_other _ _ _ _ _ _ (by omega), g5]; exact H.tab
  · rw [get_put_same _ _ _ _ (place6 0 (by omega) (by omega))]
    unfold OF fOn
    simp only [Val.set]
    refine ⟨by simpa using x0, by simpa using x1, by simpa using x2, ?_, by simpa using x4⟩
    simp only [if_true]
    rw [x3, wrap_id _ (by omega) (by omega)]; omega
  · rw [get_put_other _ _ _ _ _ _ (by omega), g61]; exact H.b0
  · unfold Holds at k1 ⊢; rw [get_put_other _ _ _ _ _ _ (by omega)]; exact k1

/-- Behind the first file's end. -/
structure FE (st : VSt) (own : ByteArray) (b : Nat) : Prop where
  tab : (st.get 5 0).n 0 = 2
  b0 : OF (st.get 6 1) 1 b 1
  i0 : Holds st 1 2 0 1 own
theorem FE.same {st st' : VSt} {own : ByteArray} {b : Nat} (H : FE st own b) (e5 : st'.get 5 0 = st.get 5 0) (e1 : st'.get 6 1 = st.get 6 1) (ei : st'.get 10 1 = st.get 10 1) : FE st' own b :=
  ⟨by rw [e5]; exact H.tab, by rw [e1]; exact H.b0, by unfold Holds; rw [ei]; exact H.i0⟩
theorem FE.has {st : VSt} {own : ByteArray} {b : Nat} (H : FE st own b) : fHas st 0 = false ∧ fHas st 1 = true := by
  unfold fHas
  rw [H.tab]
  exact ⟨by decide, by decide⟩

theorem down_n (x : Val) {k : Int} (h : x.n 1 = k) (h0 : -1000 ≤ k) (h1 : k ≤ 1000) : (fDown x).n 1 = k - 1 := by
  unfold fDown
  simp only [Val.set, if_true]
  rw [h, wrap_id _ (by omega) (by omega)]
theorem fs_close {st : VSt} {own : ByteArray} {a b h : Nat} (H : FS st own a b (h + 2)) (hh : h ≤ 100) : FS (fClose st 0) own a b (h + 1) := by
  obtain ⟨x0, x1, x2, x3, x4⟩ := H.a0
  have hd := down_n _ x1 (by omega) (by omega)
  unfold fClose
  rw [H.has.1, if_pos rfl, H.get0, hd, if_pos (by omega)]
  refine ⟨?_, ?_, ?_, ?_⟩
  · rw [get_put_other _ _ _ _ _ _ (by omega), get_fGot]; exact H.tab
  · rw [get_put_same _ _ _ _ (place6 0 (by omega) (by omega))]
    unfold OF
    refine ⟨by simpa [fDown, Val.set] using x0, by rw [hd]; omega, by simpa [fDown, Val.set] using x2, by simpa [fDown, Val.set] using x3, by simpa [fDown, Val.set] using x4⟩
  · rw [get_put_other _ _ _ _ _ _ (by omega), get_fGot]; exact H.b0
  · unfold Holds; rw [get_put_other _ _ _ _ _ _ (by omega), get_fGot]; exact H.i0
theorem gone_get (st : VSt) (f k n : Int) (h5 : ¬ (k = 5 ∧ n = 0)) (h6 : ¬ (k = 6 ∧ n = f)) : (fGone st f).get k n = st.get k n := by
  unfold fGone fOff
  rw [get_put_other _ _ _ _ _ _ h5, get_saw, get_put_other _ _ _ _ _ _ h6, get_fGot]
theorem gone_tab (st : VSt) (f : Int) : ((fGone st f).get 5 0).n 0 = unmarkN ((st.get 5 0).n 0) f.toNat := by
  unfold fGone fOff
  rw [get_put_same _ _ _ _ place5, get_put_other _ _ _ _ _ _ (by omega), get_fGot]
  simp [Val.set]
theorem fs_gone {st : VSt} {own : ByteArray} {a b : Nat} (H : FS st own a b 1) : FE (fClose st 0) own b := by
  obtain ⟨x0, x1, x2, x3, x4⟩ := H.a0
  have hd := down_n _ x1 (by omega) (by omega)
  unfold fClose
  rw [H.has.1, if_pos rfl, H.get0, hd, if_neg (by omega)]
  have y0 : (fDown (st.get 6 0)).n 0 = 1 := by simpa [fDown, Val.set] using x0
  have y2 : (fDown (st.get 6 0)).n 2 = 1 := by simpa [fDown, Val.set] using x2
  unfold fEnd
  rw [if_pos y0, y2]
  have hH : Holds (fGone st 0) 1 2 0 2 own := by unfold Holds; rw [gone_get _ _ _ _ (by omega) (by omega)]; exact H.i0
  have hc := (holds_change hH (by decide) (by decide) (by decide) 0 (-1) (by unfold wrap64; omega)).1
  rw [wrap_id _ (by omega) (by omega), wrap_id _ (by omega) (by omega)] at hc
  refine ⟨?_, ?_, ?_⟩
  · rw [change_far _ _ _ _ _ _ (by omega) (by omega), gone_tab, H.tab]; kernel_rfl
  · rw [change_far _ _ _ _ _ _ (by omega) (by omega), gone_get _ _ _ _ (by omega) (by omega)]; exact H.b0
  · exact hc
theorem fe_close0 {st : VSt} {own : ByteArray} {b : Nat} (H : FE st own b) : FE (fClose st 0) own b := by
  unfold fClose
  rw [H.has.1, if_neg (by decide)]
  exact H.same (get_fGot _ _ _ _) (get_fGot _ _ _ _) (get_fGot _ _ _ _)
theorem fe_close1 {st : VSt} {own : ByteArray} {b : Nat} (H : FE st own b) : iHas (fClose st 1) 1 = false ∧ ((fClose st 1).get 5 0).n 0 = 0 := by
  obtain ⟨x0, x1, x2, x3, x4⟩ := H.b0
  have hd := down_n _ x1 (by omega) (by omega)
  have hg : fGet st 1 = st.get 6 1 := by unfold fGet; rw [H.has.2, if_pos rfl]
  unfold fClose
  rw [H.has.2, if_pos rfl, hg, hd, if_neg (by omega)]
  have y0 : (fDown (st.get 6 1)).n 0 = 1 := by simpa [fDown, Val.set] using x0
  have y2 : (fDown (st.get 6 1)).n 2 = 1 := by simpa [fDown, Val.set] using x2
  unfold fEnd
  rw [if_pos y0, y2]
  have hH : Holds (fGone st 1) 1 2 0 1 own := by unfold Holds; rw [gone_get _ _ _ _ (by omega) (by omega)]; exact H.i0
  have hc := (gone_change hH (by decide) (by decide) (by decide) 0 (-1) (by unfold wrap64; omega)).1
  refine ⟨iHas_none _ _ (by decide) (by decide) (by rw [hc]; rfl), ?_⟩
  rw [change_far _ _ _ _ _ _ (by omega) (by omega), gone_tab, H.tab]; kernel_rfl
end Go.Proofs.Ytdlcbclfniahoaa.St
