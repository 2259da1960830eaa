/- A directory that is a table: what Add, Remove and Find make of it. No condition but those written in each statement. -/
import Derived.Test.YtcefigpdodlonaaDoorDirD
namespace Go.Proofs.YtcefigpdodlonaaDoor.St
open Go.RowKit
set_option linter.unusedVariables false

/-- A directory of these entries. -/
def DirAt (st : VSt) (i : Int) (es : List Ent) : Prop := ∃ l h txt, Holds st i 1 l h txt ∧ txt.size = 16 * es.length ∧ es.length ≤ 8 ∧ entsL txt.data.toList = es

theorem dirAt_same {st st' : VSt} {i : Int} {es : List Ent} (H : DirAt st i es) (e : st'.get 10 i = st.get 10 i) : DirAt st' i es := by
  obtain ⟨l, h, txt, a, b⟩ := H
  exact ⟨l, h, txt, by unfold Holds at a ⊢; rw [e]; exact a, b⟩
theorem dirAt_val {st : VSt} {i : Int} {es : List Ent} (H : DirAt st i es) (h1 : 1 ≤ i) (h2 : i < 16) :
    (iVal st i).n 0 = 1 ∧ (iVal st i).s.size = 16 * es.length ∧ es.length ≤ 8 ∧ dEnts st i = es ∧ iHas st i = true := by
  obtain ⟨l, h, txt, a, b, c, e⟩ := H
  obtain ⟨v1, v2, _, _, v5⟩ := holds_val a (by decide) h1 h2
  refine ⟨v2, by rw [v1, b], c, ?_, v5⟩
  unfold dEnts
  rw [if_pos v2]
  have : iRead st i 0 128 = txt := by
    have h3 := holds_read a (by decide) h1 h2 0 128
    rw [h3]
    exact readB_all txt 128 (by omega)
  rw [this, e]

/-- A write of an entry. -/
theorem over_list (txt : ByteArray) (e : List UInt8) (j : Nat) (he : e.length = 16) (hj : 16 * j ≤ txt.size) (h8 : j < 8) :
    (iOver txt ((16 * j : Nat) : Int) (iPart (bs e) ((16 * j : Nat) : Int))).data.toList = overL txt.data.toList e j := by
  have hp : iPart (bs e) ((16 * j : Nat) : Int) = bs e := part_all _ _ (by rw [bs_size, he]; omega)
  rw [hp]
  have ht : txt = bs txt.data.toList := (bs_list txt).symm
  generalize txt.data.toList = l at *
  subst ht
  rw [bs_size] at hj
  unfold iOver overL
  have e1 : (((16 * j : Nat) : Int)).toNat = 16 * j := by omega
  rw [e1, bs_take, bs_append]
  by_cases c : 16 * j + 16 ≤ l.length
  · rw [show (min ((bs l).size : Int) (((16 * j : Nat) : Int) + ((bs e).size : Int))).toNat = 16 * j + 16 by rw [bs_size, bs_size, he]; omega, bs_drop, bs_append, list_bs]
  · rw [show (min ((bs l).size : Int) (((16 * j : Nat) : Int) + ((bs e).size : Int))).toNat = l.length by rw [bs_size, bs_size, he]; omega, bs_drop, bs_append, list_bs]
    rw [List.drop_eq_nil_of_le (Nat.le_refl _), List.drop_eq_nil_of_le (by omega)]

theorem dirAt_write {st : VSt} {i : Int} {es : List Ent} (H : DirAt st i es) (h1 : 1 ≤ i) (h2 : i < 16) (e : List UInt8) (he : e.length = 16) (j : Nat) (hj : j ≤ es.length) (h8 : j < 8) :
    DirAt (iWrite st i ((16 * j : Nat) : Int) (bs e)) i (if j < es.length then es.set j (entE e) else es ++ [entE e]) ∧ iWrote st i ((16 * j : Nat) : Int) (bs e) = 16 := by
  obtain ⟨l, h, txt, a, b, c, hes⟩ := H
  have hp : iPart (bs e) ((16 * j : Nat) : Int) = bs e := part_all _ _ (by rw [bs_size, he]; omega)
  obtain ⟨w1, w2⟩ := holds_write a (by decide) h1 h2 ((16 * j : Nat) : Int) (bs e) (by omega) (by omega) (by omega)
  refine ⟨⟨l, h, _, w1, ?_, ?_, ?_⟩, ?_⟩
  · have hl := size_list (iOver txt ((16 * j : Nat) : Int) (iPart (bs e) ((16 * j : Nat) : Int)))
    rw [over_list txt e j he (by omega) h8, overL_len _ _ _ he (by rw [size_list]; omega), size_list, b] at hl
    rw [← hl]
    split
    · simp; omega
    · simp; omega
  · split
    · simp; exact c
    · simp; omega
  · rw [over_list txt e j he (by omega) h8]
    have hlen : txt.data.toList.length / 16 = es.length := by rw [size_list, b]; omega
    split
    · rename_i q
      rw [ents_over _ _ _ he (by omega), hes]
    · rename_i q
      have : j = txt.data.toList.length / 16 := by omega
      rw [this, ents_more _ _ he, hes]
  · rw [w2, hp, bs_size, he]; rfl

/-- May a name be added? -/
def addB (es : List Ent) (s : ByteArray) (n : Int) : Bool :=
  rightL s.data.toList && thereE (s, n) && decide (placeE es s < 0) && (!decide (findI (fun e => !thereE e) es < 0) || decide (es.length < 8))
def addE (es : List Ent) (s : ByteArray) (n : Int) : List Ent :=
  if addB es s n = true then (if findI (fun e => !thereE e) es < 0 then es ++ [(s, n)] else es.set (findI (fun e => !thereE e) es).toNat (s, n)) else es
def remB (es : List Ent) (s : ByteArray) : Bool := !decide (placeE es s < 0)
def remE (es : List Ent) (s : ByteArray) : List Ent := if placeE es s < 0 then es else es.set (placeE es s).toNat (bs [], 0)

theorem there_range {s : ByteArray} {n : Int} (h : thereE (s, n) = true) : 1 ≤ n ∧ n < 16 := by
  unfold thereE at h; simpa using h
theorem dirAt_add {st : VSt} {i : Int} {es : List Ent} (H : DirAt st i es) (h1 : 1 ≤ i) (h2 : i < 16) (s : ByteArray) (n : Int) :
    DirAt (dAdd st i s n) i (addE es s n) ∧ dAddB st i s n = addB es s n ∧ ∀ k m, ¬(k = 10 ∧ m = i) → (dAdd st i s n).get k m = st.get k m := by
  obtain ⟨v1, v2, v3, v4, v5⟩ := dirAt_val H h1 h2
  have no : addAt st i s n = none → addB es s n = false → DirAt (dAdd st i s n) i (addE es s n) ∧ dAddB st i s n = addB es s n ∧ ∀ k m, ¬(k = 10 ∧ m = i) → (dAdd st i s n).get k m = st.get k m := by
    intro e f
    have e1 : dAdd st i s n = iSaw st i := by unfold dAdd; rw [e]
    have e2 : dAddB st i s n = false := by unfold dAddB; rw [e]
    have e3 : addE es s n = es := by unfold addE; rw [f]; rfl
    rw [e1, e2, e3, f]
    exact ⟨dirAt_same H (get_iSaw _ _ _ _), rfl, fun k m _ => get_iSaw _ _ _ _⟩
  by_cases hc : rightL s.data.toList = true ∧ thereE (s, n) = true ∧ placeE es s < 0
  · obtain ⟨c2, c3, c4⟩ := hc
    obtain ⟨n1, n2⟩ := there_range c3
    have ea : addAt st i s n = if addO (16 * es.length) (findI (fun e => !thereE e) es) + 16 ≤ 128 then some (addO (16 * es.length) (findI (fun e => !thereE e) es)) else none := by
      unfold addAt; rw [v4, v2, if_pos ⟨v1, c2, c3, c4⟩]
    have eb : addB es s n = (!decide (findI (fun e => !thereE e) es < 0) || decide (es.length < 8)) := by
      unfold addB; rw [c2, c3, decide_eq_true c4]; rfl
    have hE : entE (packL s.data.toList n) = (s, n) := by
      rw [entE_pack _ _ c2 (by omega) (by omega), bs_list]
    have yes : ∀ j : Nat, j ≤ es.length → j < 8 → addAt st i s n = some ((16 * j : Nat) : Int) → addB es s n = true → addE es s n = (if j < es.length then es.set j (s, n) else es ++ [(s, n)]) → DirAt (dAdd st i s n) i (addE es s n) ∧ dAddB st i s n = addB es s n ∧ ∀ k m, ¬(k = 10 ∧ m = i) → (dAdd st i s n).get k m = st.get k m := by
      intro j g1 g2 e f g
      have e1 : dAdd st i s n = iWrite st i ((16 * j : Nat) : Int) (bs (packL s.data.toList n)) := by unfold dAdd; rw [e]
      have e2 : dAddB st i s n = (iWrote st i ((16 * j : Nat) : Int) (bs (packL s.data.toList n)) == 16) := by unfold dAddB; rw [e]
      obtain ⟨w1, w2⟩ := dirAt_write H h1 h2 (packL s.data.toList n) (packL_len _ _) j g1 g2
      rw [hE] at w1
      rw [e1, e2, w2, f, g]
      exact ⟨w1, rfl, fun k m hk => get_iWrite_other _ _ _ _ _ _ hk⟩
    rcases findI_cases (fun e => !thereE e) es with ⟨e, hn⟩ | ⟨j, hj, e, hb, _⟩
    · rw [e, addO_neg] at ea
      rw [e] at eb
      have e0 : ((16 * es.length : Nat) : Int) / 16 * 16 = ((16 * es.length : Nat) : Int) := by omega
      rw [e0] at ea
      by_cases h8 : es.length < 8
      · rw [if_pos (by omega)] at ea
        have f : addB es s n = true := by rw [eb, decide_eq_true h8]; rfl
        refine yes es.length (Nat.le_refl _) h8 ea f ?_
        unfold addE
        rw [f, if_pos rfl, e, if_pos (by decide), if_neg (Nat.lt_irrefl _)]
      · rw [if_neg (by omega)] at ea
        refine no ea ?_
        rw [eb, decide_eq_false h8]; rfl
    · rw [e, addO_pos _ _ (by omega)] at ea
      rw [e] at eb
      rw [if_pos (by omega), show (j : Int) * 16 = ((16 * j : Nat) : Int) by omega] at ea
      have f : addB es s n = true := by rw [eb, decide_eq_false (by omega : ¬ (j : Int) < 0)]; rfl
      refine yes j (by omega) (by omega) ea f ?_
      unfold addE
      rw [f, if_pos rfl, e, if_neg (by omega), if_pos hj]; rfl
  · refine no ?_ ?_
    · unfold addAt; rw [v4, if_neg (fun q => hc q.2)]
    · unfold addB
      cases c2 : rightL s.data.toList
      · rfl
      · cases c3 : thereE (s, n)
        · rfl
        · rw [decide_eq_false (fun q => hc ⟨c2, c3, q⟩)]; rfl

theorem dirAt_rem {st : VSt} {i : Int} {es : List Ent} (H : DirAt st i es) (h1 : 1 ≤ i) (h2 : i < 16) (s : ByteArray) :
    DirAt (dRem st i s) i (remE es s) ∧ dRemB st i s = remB es s ∧ ∀ k m, ¬(k = 10 ∧ m = i) → (dRem st i s).get k m = st.get k m := by
  obtain ⟨v1, v2, v3, v4, v5⟩ := dirAt_val H h1 h2
  unfold dRem dRemB remE remB
  rw [v4]
  by_cases hc : placeE es s < 0
  · rw [if_pos hc, if_pos hc, if_pos hc, decide_eq_true hc]
    exact ⟨dirAt_same H (get_iSaw _ _ _ _), rfl, fun k m _ => get_iSaw _ _ _ _⟩
  · rw [if_neg hc, if_neg hc, if_neg hc, decide_eq_false hc]
    obtain ⟨j, hj, e, _⟩ := placeE_at hc
    rw [e, show (j : Int) * 16 = ((16 * j : Nat) : Int) by omega]
    obtain ⟨w1, w2⟩ := dirAt_write H h1 h2 (packL [] 0) (packL_len _ _) j (by omega) (by omega)
    rw [entE_none, if_pos hj] at w1
    rw [w2]
    exact ⟨w1, rfl, fun k m hk => get_iWrite_other _ _ _ _ _ _ hk⟩

/-- A new directory is empty. -/
theorem dirAt_new (st : VSt) (h1 : 1 ≤ iFree st) (h2 : iFree st < 16) : DirAt (iAlloc st 1) (iFree st) [] := by
  refine ⟨0, 0, ByteArray.empty, alloc_same st 1 h1 h2, rfl, by simp, ?_⟩
  rfl
theorem alloc_get (st : VSt) (u k m : Int) (h9 : ¬(k = 9 ∧ m = 0)) (h : ¬(k = 10 ∧ m = iFree st)) : (iAlloc st u).get k m = st.get k m := by
  unfold iAlloc
  split
  · unfold iTake
    rw [get_put_other _ _ _ _ _ _ h, get_put_other _ _ _ _ _ _ h9, get_saw]
  · rw [get_saw]

section
variable {w W : World} {t : Nat} {L : Lay} {d q : Nat} {st : VSt}

theorem d_add (hM : Mx w) (S : Std w t L d q st W) {i : Int} {es : List Ent} (H : DirAt st i es) (h1 : 1 ≤ i) (h2 : i < 16) (s : ByteArray) (n : Int) (hs : s.size ≤ 1048576) :
    Calls Tryd.prog 16 #[.pointer (some ⟨L.v, 0, none⟩), .int .i64 i, .string s, .int .i64 n] W fun e W' => e = .returned (.bool (addB es s n)) ∧ ∃ st', (DirAt st' i (addE es s n) ∧ ∀ k m, ¬(k = 10 ∧ m = i) → st'.get k m = st.get k m) ∧ Std w t L d q st' W' ∧ Maps L W W' := by
  have v := dirAt_val H h1 h2
  obtain ⟨a, b, c⟩ := dirAt_add H h1 h2 s n
  rw [← b]
  exact (s_add hM S i s n hs (by omega)).mono fun e W' ⟨x, y, z⟩ => ⟨x, _, ⟨a, c⟩, y, z⟩
theorem d_find (hM : Mx w) (S : Std w t L d q st W) {i : Int} {es : List Ent} (H : DirAt st i es) (h1 : 1 ≤ i) (h2 : i < 16) (s : ByteArray) (hs : s.size ≤ 1048576) :
    Calls Tryd.prog 11 #[.pointer (some ⟨L.v, 0, none⟩), .int .i64 i, .string s] W fun e W' => e = .returned (.tuple #[.int .i64 (fndN es s), .bool (fndB es s)]) ∧ ∃ st', (∀ k m, st'.get k m = st.get k m) ∧ Std w t L d q st' W' ∧ Maps L W W' := by
  have v := dirAt_val H h1 h2
  have h := s_find hM S i s hs (by omega)
  rw [v.2.2.2.1] at h
  exact h.mono fun e W' ⟨x, y, z⟩ => ⟨x, _, fun k m => get_iSaw _ _ _ _, y, z⟩
theorem d_names (hM : Mx w) (S : Std w t L d q st W) {i : Int} {es : List Ent} (H : DirAt st i es) (h1 : 1 ≤ i) (h2 : i < 16) :
    Calls Tryd.prog 20 #[.pointer (some ⟨L.v, 0, none⟩), .int .i64 i] W fun e W' => ∃ v, e = .returned v ∧ TL W.heap.size W' v (namesE es) ∧ ∃ st', (∀ k m, st'.get k m = st.get k m) ∧ Std w t L d q st' W' ∧ Maps L W W' := by
  have v := dirAt_val H h1 h2
  have h := s_names hM S i (by omega)
  rw [v.2.2.2.1] at h
  exact h.mono fun e W' ⟨x, y, z, u⟩ => ⟨x, y, z, _, fun k m => get_iSaw _ _ _ _, u⟩
end
end Go.Proofs.YtcefigpdodlonaaDoor.St
