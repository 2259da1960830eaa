/- The walk of cloisterlaw11.DirRefuses. No condition but those written in each statement. -/
import Derived.Test.YtcefigpdodlonaaDirRu
import Derived.Test.YtcefigpdodlonaaWithin
import Derived.Test.YtcefigpdodlonaaLawKit
namespace Go.Proofs.Ytcefigpdodlonaa.St
open Go.RowKit
set_option linter.unusedVariables false

def dotsE : List Ent := [(⟨#[46]⟩, 2), (⟨#[46, 46]⟩, 2)]
/-- A file, a directory that holds its dots, no other inode. -/
def DR (st : VSt) : Prop := Holds st 1 2 0 0 ByteArray.empty ∧ DirAt st 2 dotsE ∧ ∀ k, 3 ≤ k → k < 16 → (st.get 10 k).n 0 = 0
theorem dr_same {st st' : VSt} (H : DR st) (e : ∀ k m, st'.get k m = st.get k m) : DR st' :=
  ⟨by unfold Holds; rw [e]; exact H.1, dirAt_same H.2.1 (e _ _), fun k a b => by rw [e]; exact H.2.2 k a b⟩
theorem dr_saw {st : VSt} (H : DR st) (i : Int) : DR (iSaw st i) := dr_same H fun k m => get_iSaw _ _ _ _
theorem dr_file {st : VSt} (H : DR st) : (iVal st 1).n 0 = 2 ∧ (iVal st 1).s = ByteArray.empty := by
  have := holds_val H.1 (by decide) (by decide) (by decide)
  exact ⟨this.2.1, this.1⟩
theorem dr_none {st : VSt} (H : DR st) (g : Int) (h : 3 ≤ g) : iVal st g = Val.zero := by
  by_cases h2 : 16 ≤ g
  · exact iVal_out st g (Or.inr h2)
  · exact iVal_none st g (by omega) (by omega) (H.2.2 g h (by omega))

section
variable {w W : World} {t : Nat} {L : Lay} {d q : Nat} {st : VSt}

theorem dr_mk1 (S : Std w t L d q (csN 0) W) : Calls Try.prog 8 #[.pointer (some ⟨L.v, 0, none⟩), .int .i64 2] W fun e W' => e = .returned (.tuple #[.int .i64 1, .bool true]) ∧ Std w t L d q (csN 1) W' := by
  have hf : iFree (csN 0) = 1 := cs_free 0 (by decide)
  have h := s_alloc S 2
  rw [show iGot (csN 0) = 1 by unfold iGot; rw [hf]; decide, hf] at h
  exact h.mono fun e W' ⟨a, b, _⟩ => ⟨a, b⟩
theorem dr_mk2 (S : Std w t L d q (csN 1) W) : Calls Try.prog 8 #[.pointer (some ⟨L.v, 0, none⟩), .int .i64 1] W fun e W' => e = .returned (.tuple #[.int .i64 2, .bool true]) ∧ ∃ st', (Holds st' 1 2 0 0 ByteArray.empty ∧ DirAt st' 2 [] ∧ ∀ k, 3 ≤ k → k < 16 → (st'.get 10 k).n 0 = 0) ∧ Std w t L d q st' W' := by
  have hf : iFree (csN 1) = 2 := cs_free 1 (by decide)
  have h := s_alloc S 1
  have hd := dirAt_new (csN 1) (by omega) (by omega)
  rw [hf] at hd
  have h1 : Holds (iAlloc (csN 1) 1) 1 2 0 0 ByteArray.empty := holds_alloc_other (cs_holds 1 (by decide) 1 (by decide) (by decide)) 1 (by rw [hf]; decide)
  have h2 : ∀ k : Int, 3 ≤ k → k < 16 → ((iAlloc (csN 1) 1).get 10 k).n 0 = 0 := by
    intro k a b
    rw [alloc_get _ _ _ _ (by omega) (by rw [hf]; omega)]
    have : k = 3 ∨ k = 4 ∨ k = 5 ∨ k = 6 ∨ k = 7 ∨ k = 8 ∨ k = 9 ∨ k = 10 ∨ k = 11 ∨ k = 12 ∨ k = 13 ∨ k = 14 ∨ k = 15 := by omega
    rcases this with rfl | rfl | rfl | rfl | rfl | rfl | rfl | rfl | rfl | rfl | rfl | rfl | rfl <;> (show _ = (0 : Int); kernel_rfl)
  rw [show iGot (csN 1) = 2 by unfold iGot; rw [hf]; decide, hf] at h
  exact h.mono fun e W' ⟨a, b, _⟩ => ⟨a, _, ⟨h1, hd, h2⟩, b⟩
theorem dots1 : addB [] ⟨#[46]⟩ 2 = true ∧ addE [] ⟨#[46]⟩ 2 = [(⟨#[46]⟩, 2)] := by decide +kernel
theorem dots2 : addB [(⟨#[46]⟩, 2)] ⟨#[46, 46]⟩ 2 = true ∧ addE [(⟨#[46]⟩, 2)] ⟨#[46, 46]⟩ 2 = dotsE := by decide +kernel
theorem dr_dot1 (hM : Mx w) (S : Std w t L d q st W) (H : Holds st 1 2 0 0 ByteArray.empty ∧ DirAt st 2 [] ∧ ∀ k, 3 ≤ k → k < 16 → (st.get 10 k).n 0 = 0) :
    Calls Try.prog 9 #[.pointer (some ⟨L.v, 0, none⟩), .int .i64 2, .string ⟨#[46]⟩, .int .i64 2] W fun e W' => e = .returned (.bool true) ∧ ∃ st', (Holds st' 1 2 0 0 ByteArray.empty ∧ DirAt st' 2 [(⟨#[46]⟩, 2)] ∧ ∀ k, 3 ≤ k → k < 16 → (st'.get 10 k).n 0 = 0) ∧ Std w t L d q st' W' := by
  have h := d_add hM S H.2.1 (by decide) (by decide) ⟨#[46]⟩ 2 (by decide)
  rw [dots1.1, dots1.2] at h
  refine h.mono fun e W' ⟨a, st', ⟨b, c⟩, s, _⟩ => ⟨a, st', ⟨?_, b, fun k x y => ?_⟩, s⟩
  · unfold Holds; rw [c _ _ (by omega)]; exact H.1
  · rw [c _ _ (by omega)]; exact H.2.2 k x y
theorem dr_dot2 (hM : Mx w) (S : Std w t L d q st W) (H : Holds st 1 2 0 0 ByteArray.empty ∧ DirAt st 2 [(⟨#[46]⟩, 2)] ∧ ∀ k, 3 ≤ k → k < 16 → (st.get 10 k).n 0 = 0) :
    Calls Try.prog 9 #[.pointer (some ⟨L.v, 0, none⟩), .int .i64 2, .string ⟨#[46, 46]⟩, .int .i64 2] W fun e W' => e = .returned (.bool true) ∧ ∃ st', DR st' ∧ Std w t L d q st' W' := by
  have h := d_add hM S H.2.1 (by decide) (by decide) ⟨#[46, 46]⟩ 2 (by decide)
  rw [dots2.1, dots2.2] at h
  refine h.mono fun e W' ⟨a, st', ⟨b, c⟩, s, _⟩ => ⟨a, st', ⟨?_, b, fun k x y => ?_⟩, s⟩
  · unfold Holds; rw [c _ _ (by omega)]; exact H.1
  · rw [c _ _ (by omega)]; exact H.2.2 k x y

theorem dr_add (hM : Mx w) (S : Std w t L d q st W) (H : DR st) (i : Int) (s : ByteArray) (n : Int) (hs : s.size ≤ 1048576) (hi : 1 ≤ i)
    (hc : i ≠ 2 ∨ rightL s.data.toList = false ∨ thereE (s, n) = false) : Calls Try.prog 9 #[.pointer (some ⟨L.v, 0, none⟩), .int .i64 i, .string s, .int .i64 n] W fun e W' => e = .returned (.bool false) ∧ ∃ st', DR st' ∧ Std w t L d q st' W' := by
  have hz : ((iVal st i).s.size : Int) ≤ 140737488351232 := by
    by_cases h1 : i = 1
    · rw [h1, (dr_file H).2]; decide
    · by_cases h2 : i = 2
      · have := dirAt_val H.2.1 (by decide) (by decide); rw [h2]; omega
      · rw [dr_none H i (by omega)]; decide
  refine (s_add_no hM S i s n hs hz ?_).mono fun e W' ⟨a, b, _⟩ => ⟨a, _, dr_saw H i, b⟩
  rintro ⟨q1, q2, q3, _⟩
  rcases hc with h | h | h
  · by_cases h1 : i = 1
    · rw [h1, (dr_file H).1] at q1; exact absurd q1 (by decide)
    · rw [dr_none H i (by omega)] at q1; exact absurd q1 (by decide)
  · rw [h] at q2; cases q2
  · rw [h] at q3; cases q3
theorem dr_rem2 (hM : Mx w) (S : Std w t L d q st W) (H : DR st) : Calls Try.prog 10 #[.pointer (some ⟨L.v, 0, none⟩), .int .i64 2, .string ⟨#[120]⟩] W fun e W' => e = .returned (.bool false) ∧ ∃ st', DR st' ∧ Std w t L d q st' W' := by
  have v := dirAt_val H.2.1 (by decide) (by decide)
  have hp : placeE dotsE ⟨#[120]⟩ = -1 := by decide +kernel
  have h := s_remove hM S 2 ⟨#[120]⟩ (by decide) (by omega)
  have e1 : dRem st 2 ⟨#[120]⟩ = iSaw st 2 := by unfold dRem; rw [v.2.2.2.1, hp, if_pos (by decide)]
  have e2 : dRemB st 2 ⟨#[120]⟩ = false := by unfold dRemB; rw [v.2.2.2.1, hp, if_pos (by decide)]
  rw [e1, e2] at h
  exact h.mono fun e W' ⟨a, b, _⟩ => ⟨a, _, dr_saw H 2, b⟩
theorem dr_ents {st : VSt} (H : DR st) : dEnts st 1 = [] := by unfold dEnts; rw [(dr_file H).1, if_neg (by decide)]
theorem place_nil (s : ByteArray) : placeE [] s = -1 := by
  unfold placeE
  split
  · rfl
  · rfl
theorem dr_rem1 (hM : Mx w) (S : Std w t L d q st W) (H : DR st) : Calls Try.prog 10 #[.pointer (some ⟨L.v, 0, none⟩), .int .i64 1, .string ⟨#[46]⟩] W fun e W' => e = .returned (.bool false) ∧ ∃ st', DR st' ∧ Std w t L d q st' W' := by
  have h := s_remove hM S 1 ⟨#[46]⟩ (by decide) (by rw [(dr_file H).2]; decide)
  have e1 : dRem st 1 ⟨#[46]⟩ = iSaw st 1 := by unfold dRem; rw [dr_ents H, place_nil, if_pos (by decide)]
  have e2 : dRemB st 1 ⟨#[46]⟩ = false := by unfold dRemB; rw [dr_ents H, place_nil, if_pos (by decide)]
  rw [e1, e2] at h
  exact h.mono fun e W' ⟨a, b, _⟩ => ⟨a, _, dr_saw H 1, b⟩
theorem dr_find2 (hM : Mx w) (S : Std w t L d q st W) (H : DR st) (s : ByteArray) (hs : s.size ≤ 1048576) (hr : rightL s.data.toList = false) : Calls Try.prog 11 #[.pointer (some ⟨L.v, 0, none⟩), .int .i64 2, .string s] W fun e W' => e = .returned (.tuple #[.int .i64 0, .bool false]) ∧ ∃ st', DR st' ∧ Std w t L d q st' W' := by
  have h := d_find hM S H.2.1 (by decide) (by decide) s hs
  have hp : placeE dotsE s = -1 := by unfold placeE; rw [hr, if_neg (by decide)]
  rw [show fndN dotsE s = 0 by unfold fndN; rw [hp, if_pos (by decide)], show fndB dotsE s = false by unfold fndB; rw [hp]; decide] at h
  exact h.mono fun e W' ⟨a, st', b, s, _⟩ => ⟨a, st', dr_same H b, s⟩
theorem dr_find1 (hM : Mx w) (S : Std w t L d q st W) (H : DR st) : Calls Try.prog 11 #[.pointer (some ⟨L.v, 0, none⟩), .int .i64 1, .string ⟨#[46]⟩] W fun e W' => e = .returned (.tuple #[.int .i64 0, .bool false]) ∧ ∃ st', DR st' ∧ Std w t L d q st' W' := by
  have h := s_find hM S 1 ⟨#[46]⟩ (by decide) (by rw [(dr_file H).2]; decide)
  rw [dr_ents H, show fndN [] ⟨#[46]⟩ = 0 by unfold fndN; rw [place_nil, if_pos (by decide)], show fndB [] ⟨#[46]⟩ = false by unfold fndB; rw [place_nil]; decide] at h
  exact h.mono fun e W' ⟨a, b, _⟩ => ⟨a, _, dr_saw H 1, b⟩
theorem dr_bare (hM : Mx w) (S : Std w t L d q st W) (H : DR st) : Calls Try.prog 17 #[.pointer (some ⟨L.v, 0, none⟩), .int .i64 2] W fun e W' => e = .returned (.bool true) ∧ ∃ st', DR st' ∧ Std w t L d q st' W' := by
  have h := d_bare hM S H.2.1 (by decide) (by decide)
  rw [show bareE dotsE = true by decide +kernel] at h
  exact h.mono fun e W' ⟨a, st', b, s, _⟩ => ⟨a, st', dr_same H b, s⟩
theorem dr_size2 (S : Std w t L d q st W) (H : DR st) : Calls Try.prog 15 #[.pointer (some ⟨L.v, 0, none⟩), .int .i64 2] W fun e W' => e = .returned (.int .i64 32) ∧ ∃ st', DR st' ∧ Std w t L d q st' W' := by
  have h := s_size S 2
  rw [(dirAt_val H.2.1 (by decide) (by decide)).2.1] at h
  exact h.mono fun e W' ⟨a, s, _⟩ => ⟨a, _, dr_saw H 2, s⟩
theorem dr_size1 (S : Std w t L d q st W) (H : DR st) : Calls Try.prog 15 #[.pointer (some ⟨L.v, 0, none⟩), .int .i64 1] W fun e W' => e = .returned (.int .i64 0) ∧ Below w.heap.size w W' := by
  have h := s_size S 1
  rw [(dr_file H).2] at h
  exact h.mono fun e W' ⟨a, s, _⟩ => ⟨a, s.b⟩
theorem dr_is1 (S : Std w t L d q st W) (H : DR st) : Calls Try.prog 19 #[.pointer (some ⟨L.v, 0, none⟩), .int .i64 1] W fun e W' => e = .returned (.bool false) ∧ ∃ st', DR st' ∧ Std w t L d q st' W' := by
  have h := s_isdir S 1
  rw [(dr_file H).1] at h
  exact h.mono fun e W' ⟨a, s, _⟩ => ⟨a, _, dr_saw H 1, s⟩
theorem dr_is2 (S : Std w t L d q st W) (H : DR st) : Calls Try.prog 19 #[.pointer (some ⟨L.v, 0, none⟩), .int .i64 2] W fun e W' => e = .returned (.bool true) ∧ ∃ st', DR st' ∧ Std w t L d q st' W' := by
  have h := s_isdir S 2
  rw [(dirAt_val H.2.1 (by decide) (by decide)).1] at h
  exact h.mono fun e W' ⟨a, s, _⟩ => ⟨a, _, dr_saw H 2, s⟩
end
theorem slash_wrong (s : ByteArray) : rightL (s ++ ⟨#[47]⟩).data.toList = false := by
  have : (s ++ ⟨#[47]⟩).data.toList = s.data.toList ++ [47] := by
    rw [ByteArray.data_append]; simp
  rw [this]
  unfold rightL
  simp

attribute [local irreducible] Int.lt Int.le csN
set_option maxRecDepth 100000 in
set_option maxHeartbeats 4000000 in
theorem dirRefuses_walk (a0 : ByteArray) (a1 a2 : Int) (w : World) (w0 : a0.size ≤ maxLen) (w1 : (Lit.int .i64 a1).wf = true) (w2 : (Lit.int .i64 a2).wf = true) (hM : Mx w) :
    Calls Try.prog 6 #[.string a0, .int .i64 a1, .int .i64 a2] w fun e w' => e = .returned (.bool true) ∧ Below w.heap.size w w' := by
  go_enter Try.func6, Try.ntmps6
  go_wp2_with fail
  refine (s_newV _).mono ?_; rintro e W1 ⟨t, d, q, L, rfl, S1⟩
  have c1 := S1.cell
  go_wp2_with fail
  refine (dr_mk1 S1).mono ?_; rintro e W2 ⟨rfl, S2⟩
  have c2 := S2.cell
  clear S1 c1
  go_wp2_with fail
  refine (dr_mk2 S2).mono ?_; rintro e W3 ⟨rfl, st3, H3, S3⟩
  have c3 := S3.cell
  clear S2 c2
  go_wp2_with fail
  refine (dr_dot1 hM S3 H3).mono ?_; rintro e W4 ⟨rfl, st4, H4, S4⟩
  have c4 := S4.cell
  clear S3 c3 H3
  go_wp2_with fail
  refine (dr_dot2 hM S4 H4).mono ?_; rintro e W5 ⟨rfl, st5, H5, S5⟩
  have c5 := S5.cell
  clear S4 c4 H4
  go_wp2_with fail
  refine (dr_size2 S5 H5).mono ?_; rintro e W6 ⟨rfl, st6, H6, S6⟩
  have c6 := S6.cell
  clear S5 c5 H5
  have hsz : (a0.extract 0 (min (a0.size : Int) 30).toNat).size ≤ 30 := by rw [ByteArray.size_extract]; omega
  go_wp2_with fail
  generalize a0.extract 0 (min (a0.size : Int) 30).toNat = sN at *
  have hr := right_any sN W6 (by omega)
  have s1 : (sN.size : Int) ≤ 30 := by omega
  cases hx : rightL sN.data.toList
  case' true =>
    rw [hx] at hr
    refine hr.mono ?_; rintro e W7 ⟨rfl, rfl⟩
    go_wp2_with fail
    have h1 := slash_wrong sN
    have h2 : (sN ++ ⟨#[47]⟩ : ByteArray).size ≤ 1048576 := by rw [ByteArray.size_append]; show sN.size + 1 ≤ _; omega
    generalize (sN ++ ⟨#[47]⟩ : ByteArray) = bad at *
    clear hr hx
  case' false =>
    rw [hx] at hr
    refine hr.mono ?_; rintro e W7 ⟨rfl, rfl⟩
    go_wp2_with fail
    have h1 := hx
    have h2 : sN.size ≤ 1048576 := by omega
    clear hr hx
    obtain ⟨bad, hbad⟩ : ∃ bad, bad = sN := ⟨_, rfl⟩
    rw [← hbad] at h1 h2 ⊢
    clear hbad
  all_goals
    have wb := Fp.within_bounds a1 0 9 (by omega)
    refine (Fp.within_any a1 0 9 (by omega) (by omega) (by omega) _).mono ?_; rintro e Wx ⟨rfl, rfl⟩
    generalize Fp.withinI a1 0 9 = o at *
    have o1 : 0 ≤ o := wb.1
    have o2 : o ≤ 9 := wb.2
    clear wb
    go_wp2_with fail
    have wb := Fp.within_bounds a2 0 30 (by omega)
    refine (Fp.within_any a2 0 30 (by omega) (by omega) (by omega) _).mono ?_; rintro e Wx ⟨rfl, rfl⟩
    generalize Fp.withinI a2 0 30 = g at *
    have g1 : 0 ≤ g := wb.1
    have g2 : g ≤ 30 := wb.2
    clear wb
    go_wp2_with fail
    refine (dr_add hM S6 H6 2 bad 1 h2 (by omega) (Or.inr (Or.inl h1))).mono ?_; rintro e W8 ⟨rfl, st8, H8, S8⟩
    have c8 := S8.cell
    clear S6 c6 H6
    go_wp2_with fail
    refine (dr_add hM S8 H8 2 ⟨#[120]⟩ 0 (by decide) (by omega) (Or.inr (Or.inr (by decide)))).mono ?_; rintro e W9 ⟨rfl, st9, H9, S9⟩
    have c9 := S9.cell
    clear S8 c8 H8
    go_wp2_with fail
    refine (dr_add hM S9 H9 2 ⟨#[120]⟩ (16 + o) (by decide) (by omega) (Or.inr (Or.inr (by unfold thereE; rw [decide_eq_false (show ¬ 16 + o < 16 by omega), Bool.and_false])))).mono ?_; rintro e Wa ⟨rfl, sta, Ha, Sa⟩
    have ca := Sa.cell
    clear S9 c9 H9
    go_wp2_with fail
    refine (dr_add hM Sa Ha 1 ⟨#[120]⟩ 1 (by decide) (by omega) (Or.inl (by decide))).mono ?_; rintro e Wb ⟨rfl, stb, Hb, Sb⟩
    have cb := Sb.cell
    clear Sa ca Ha
    go_wp2_with fail
    refine (dr_add hM Sb Hb (3 + g) ⟨#[120]⟩ 1 (by decide) (by omega) (Or.inl (by omega))).mono ?_; rintro e Wc ⟨rfl, stc, Hc, Sc⟩
    have cc := Sc.cell
    clear Sb cb Hb
    go_wp2_with fail
    refine (dr_rem2 hM Sc Hc).mono ?_; rintro e Wd ⟨rfl, std, Hd, Sd⟩
    have cd := Sd.cell
    clear Sc cc Hc
    go_wp2_with fail
    refine (dr_rem1 hM Sd Hd).mono ?_; rintro e We ⟨rfl, ste, He, Se⟩
    have ce := Se.cell
    clear Sd cd Hd
    go_wp2_with fail
    refine (dr_find2 hM Se He bad h2 h1).mono ?_; rintro e Wf ⟨rfl, stf, Hf, Sf⟩
    have cf := Sf.cell
    clear Se ce He
    go_wp2_with fail
    refine (dr_find1 hM Sf Hf).mono ?_; rintro e Wg ⟨rfl, stg, Hg, Sg⟩
    have cg := Sg.cell
    clear Sf cf Hf
    go_wp2_with fail
    refine (dr_bare hM Sg Hg).mono ?_; rintro e Wh ⟨rfl, sth, Hh, Sh⟩
    have ch := Sh.cell
    clear Sg cg Hg
    go_wp2_with fail
    refine (dr_size2 Sh Hh).mono ?_; rintro e Wi ⟨rfl, sti, Hi, Si⟩
    have ci := Si.cell
    clear Sh ch Hh
    go_wp2_with fail
    refine (dr_is1 Si Hi).mono ?_; rintro e Wj ⟨rfl, stj, Hj, Sj⟩
    have cj := Sj.cell
    clear Si ci Hi
    go_wp2_with fail
    refine (dr_is2 Sj Hj).mono ?_; rintro e Wk ⟨rfl, stk, Hk, Sk⟩
    have ck := Sk.cell
    clear Sj cj Hj
    go_wp2_with fail
    refine (dr_size1 Sk Hk).mono ?_; rintro e Wl ⟨rfl, bl⟩
    clear Sk ck Hk
    go_wp2_with fail
    refine (druns_any _ (hM.below (Nat.le_refl _) bl)).mono ?_; rintro e Wm ⟨rfl, bm⟩
    go_wp2_with fail
    go_ret
    exact ⟨rfl, bl.trans (bm.mono bl.size)⟩
end Go.Proofs.Ytcefigpdodlonaa.St
