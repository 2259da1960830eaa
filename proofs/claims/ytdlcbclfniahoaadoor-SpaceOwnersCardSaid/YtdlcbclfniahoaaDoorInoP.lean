/- What inodes hold behind each call, in plain Lean: what is written is read again; what is done to one changes no other. No condition but those written in each statement. -/
import Derived.Test.YtdlcbclfniahoaaDoorInoF
namespace Go.Proofs.YtdlcbclfniahoaaDoor.St
open Go.RowKit
set_option linter.unusedVariables false

theorem get_saw (st : VSt) (a b k n : Int) : (st.saw a b).get k n = st.get k n := by
  unfold VSt.saw
  split
  · rfl
  · rfl
theorem get_put_same (st : VSt) (k n : Int) (x : Val) (h : 0 ≤ placeI k n) : (st.put k n x).get k n = x := by
  unfold VSt.put VSt.get
  rw [if_neg (by omega), if_neg (by omega)]
  simp [updV]
theorem get_put_other (st : VSt) (a b k n : Int) (x : Val) (h : ¬(k = a ∧ n = b)) : (st.put a b x).get k n = st.get k n := by
  unfold VSt.put VSt.get
  by_cases hp : placeI a b < 0
  · rw [if_pos hp]
  · rw [if_neg hp]
    by_cases hq : placeI k n < 0
    · rw [if_pos hq, if_pos hq]
    · rw [if_neg hq, if_neg hq]
      simp [updV, h]

theorem place9 : 0 ≤ placeI 9 0 := by decide
theorem place10 (i : Int) (h1 : 0 ≤ i) (h2 : i < 16) : 0 ≤ placeI 10 i := by
  obtain ⟨j, rfl⟩ := Int.eq_ofNat_of_zero_le h1
  have : j = 0 ∨ j = 1 ∨ j = 2 ∨ j = 3 ∨ j = 4 ∨ j = 5 ∨ j = 6 ∨ j = 7 ∨ j = 8 ∨ j = 9 ∨ j = 10 ∨ j = 11 ∨ j = 12 ∨ j = 13 ∨ j = 14 ∨ j = 15 := by omega
  rcases this with rfl | rfl | rfl | rfl | rfl | rfl | rfl | rfl | rfl | rfl | rfl | rfl | rfl | rfl | rfl | rfl <;> decide

theorem get_iSaw (st : VSt) (i k n : Int) : (iSaw st i).get k n = st.get k n := by
  unfold iSaw; split
  · rfl
  · exact get_saw _ _ _ _ _
theorem iVal_in (st : VSt) (i : Int) (h1 : 1 ≤ i) (h2 : i < 16) (h : (st.get 10 i).n 0 ≠ 0) : iVal st i = st.get 10 i := by
  unfold iVal iValIn; rw [if_neg (by omega), if_neg h]
theorem iHas_in (st : VSt) (i : Int) (h1 : 1 ≤ i) (h2 : i < 16) (h : (st.get 10 i).n 0 ≠ 0) : iHas st i = true := by
  unfold iHas; rw [if_neg (by omega)]; simpa using h
theorem iHas_none (st : VSt) (i : Int) (h1 : 1 ≤ i) (h2 : i < 16) (h : (st.get 10 i).n 0 = 0) : iHas st i = false := by
  unfold iHas; rw [if_neg (by omega)]; simpa using h
theorem iVal_none (st : VSt) (i : Int) (h1 : 1 ≤ i) (h2 : i < 16) (h : (st.get 10 i).n 0 = 0) : iVal st i = Val.zero := by
  unfold iVal iValIn; rw [if_neg (by omega), if_pos h]
theorem iHas_out (st : VSt) (i : Int) (h : i < 1 ∨ 16 ≤ i) : iHas st i = false := by
  unfold iHas; rw [if_pos h]
theorem iVal_out (st : VSt) (i : Int) (h : i < 1 ∨ 16 ≤ i) : iVal st i = Val.zero := by
  unfold iVal; rw [if_pos h]

/-- What a view holds behind a write. -/
theorem get_iWrite_other (st : VSt) (i off : Int) (d : ByteArray) (k n : Int) (h : ¬(k = 10 ∧ n = i)) : (iWrite st i off d).get k n = st.get k n := by
  unfold iWrite; split
  · rw [get_put_other _ _ _ _ _ _ h, get_iSaw]
  · exact get_iSaw _ _ _ _
theorem get_iWrite_same (st : VSt) (i off : Int) (d : ByteArray) (h1 : 1 ≤ i) (h2 : i < 16) (h : iMay st i off) : (iWrite st i off d).get 10 i = (iVal st i).text (iOver (iVal st i).s off (iPart d off)) := by
  unfold iWrite; rw [if_pos h, get_put_same _ _ _ _ (place10 i (by omega) h2)]
theorem get_iWrite_no (st : VSt) (i off : Int) (d : ByteArray) (h : ¬ iMay st i off) (k n : Int) : (iWrite st i off d).get k n = st.get k n := by
  unfold iWrite; rw [if_neg h, get_iSaw]

theorem over_size (s D : ByteArray) (off : Int) (h0 : 0 ≤ off) (h1 : off ≤ (s.size : Int)) : ((iOver s off D).size : Int) = max (s.size : Int) (off + D.size) := by
  unfold iOver
  rw [ByteArray.size_append, ByteArray.size_append, ByteArray.size_extract, ByteArray.size_extract]
  omega
theorem over_max (s d : ByteArray) (off : Int) (h0 : 0 ≤ off) (h1 : off ≤ (s.size : Int)) (h2 : off ≤ 128) (h3 : (s.size : Int) ≤ 128) : ((iOver s off (iPart d off)).size : Int) ≤ 128 := by
  rw [over_size _ _ _ h0 h1, part_size d off (by omega)]; omega

/-- An inode that is there, and what it holds. -/
def Holds (st : VSt) (i : Int) (t l h : Int) (s : ByteArray) : Prop := (st.get 10 i).n 0 = t ∧ (st.get 10 i).n 1 = l ∧ (st.get 10 i).n 2 = h ∧ (st.get 10 i).s = s

theorem holds_write {st : VSt} {i t l h : Int} {s : ByteArray} (H : Holds st i t l h s) (ht : t ≠ 0) (h1 : 1 ≤ i) (h2 : i < 16) (off : Int) (d : ByteArray) (g1 : 0 ≤ off) (g2 : off ≤ 128) (g3 : off ≤ (s.size : Int)) :
    Holds (iWrite st i off d) i t l h (iOver s off (iPart d off)) ∧ iWrote st i off d = (iPart d off).size := by
  obtain ⟨a, b, c, e⟩ := H
  have hv := iVal_in st i h1 h2 (by rw [a]; exact ht)
  have hm : iMay st i off := ⟨iHas_in st i h1 h2 (by rw [a]; exact ht), g1, g2, by rw [hv, e]; exact g3⟩
  have hg := get_iWrite_same st i off d h1 h2 hm
  refine ⟨?_, by unfold iWrote; rw [if_pos hm]⟩
  unfold Holds
  rw [hg, hv]
  exact ⟨a, b, c, by simp [Val.text, e]⟩
theorem holds_write_no {st : VSt} {i t l h : Int} {s : ByteArray} (H : Holds st i t l h s) (ht : t ≠ 0) (h1 : 1 ≤ i) (h2 : i < 16) (off : Int) (d : ByteArray) (g : off < 0 ∨ 128 < off ∨ (s.size : Int) < off) :
    Holds (iWrite st i off d) i t l h s ∧ iWrote st i off d = -1 := by
  obtain ⟨a, b, c, e⟩ := H
  have hv := iVal_in st i h1 h2 (by rw [a]; exact ht)
  have hm : ¬ iMay st i off := by
    rintro ⟨_, q1, q2, q3⟩
    rw [hv, e] at q3
    omega
  refine ⟨?_, by unfold iWrote; rw [if_neg hm]⟩
  unfold Holds
  rw [get_iWrite_no st i off d hm]
  exact ⟨a, b, c, e⟩
theorem holds_write_other {st : VSt} {i t l h : Int} {s : ByteArray} (H : Holds st i t l h s) (j off : Int) (d : ByteArray) (hj : j ≠ i) : Holds (iWrite st j off d) i t l h s := by
  unfold Holds
  rw [get_iWrite_other st j off d 10 i (by omega)]
  exact H
theorem holds_saw {st : VSt} {i t l h : Int} {s : ByteArray} (H : Holds st i t l h s) (j : Int) : Holds (iSaw st j) i t l h s := by
  unfold Holds; rw [get_iSaw]; exact H
theorem holds_val {st : VSt} {i t l h : Int} {s : ByteArray} (H : Holds st i t l h s) (ht : t ≠ 0) (h1 : 1 ≤ i) (h2 : i < 16) : (iVal st i).s = s ∧ (iVal st i).n 0 = t ∧ (iVal st i).n 1 = l ∧ (iVal st i).n 2 = h ∧ iHas st i = true := by
  obtain ⟨a, b, c, e⟩ := H
  rw [iVal_in st i h1 h2 (by rw [a]; exact ht)]
  exact ⟨e, a, b, c, iHas_in st i h1 h2 (by rw [a]; exact ht)⟩
theorem holds_read {st : VSt} {i t l h : Int} {s : ByteArray} (H : Holds st i t l h s) (ht : t ≠ 0) (h1 : 1 ≤ i) (h2 : i < 16) (off n : Int) :
    iRead st i off n = if off < 0 ∨ (s.size : Int) ≤ off ∨ n < 1 then ByteArray.empty else s.extract off.toNat (off + min n (s.size - off)).toNat := by
  unfold iRead; rw [(holds_val H ht h1 h2).1]

/-- What is read of a text. -/
def readB (s : ByteArray) (off n : Int) : ByteArray := if off < 0 ∨ (s.size : Int) ≤ off ∨ n < 1 then ByteArray.empty else s.extract off.toNat (off + min n (s.size - off)).toNat

theorem readB_all (s : ByteArray) (n : Int) (h : (s.size : Int) ≤ n) : readB s 0 n = s := by
  unfold readB
  split
  · rename_i hc
    have : s.size = 0 := by omega
    apply ByteArray.ext
    apply Array.ext
    · simpa using this.symm
    · intro i a b; simp at a
  · rename_i hc
    rw [show (0 + min n ((s.size : Int) - 0)).toNat = s.size by omega]
    exact ByteArray.extract_zero_size
theorem extract_none (s : ByteArray) (a b : Nat) (h : b ≤ a) : s.extract a b = ByteArray.empty := by
  apply ByteArray.ext
  apply Array.ext
  · have : (s.extract a b).size = 0 := by rw [ByteArray.size_extract]; omega
    simpa using this
  · intro i p q; simp at q
theorem readB_mid (s : ByteArray) (off n : Int) (h0 : 0 ≤ off) (h1 : off < (s.size : Int)) (h2 : 0 ≤ n) (h3 : off + n < (s.size : Int)) : readB s off n = s.extract off.toNat (off + n).toNat := by
  unfold readB
  by_cases hn : n < 1
  · rw [if_pos (Or.inr (Or.inr hn)), extract_none _ _ _ (by omega)]
  · rw [if_neg (by omega), show min n ((s.size : Int) - off) = n by omega]
theorem readB_end (s : ByteArray) (off n : Int) (h0 : 0 ≤ off) (h1 : off < (s.size : Int)) (h3 : (s.size : Int) ≤ off + n) : readB s off n = s.extract off.toNat s.size := by
  unfold readB
  rw [if_neg (by omega), show (off + min n ((s.size : Int) - off)).toNat = s.size by omega]
theorem readB_out (s : ByteArray) (off n : Int) (h1 : (s.size : Int) ≤ off) : readB s off n = ⟨#[]⟩ := by
  unfold readB
  rw [if_pos (Or.inr (Or.inl h1))]
  rfl
end Go.Proofs.YtdlcbclfniahoaaDoor.St
