/- The contracts of package dir: Find, Add, Remove. No condition but those written in each statement. -/
import Derived.Test.YtcefigpdodlonaaDoorDirB
namespace Go.Proofs.YtcefigpdodlonaaDoor.St
open Go.RowKit
set_option linter.unusedVariables false

theorem dEnts_len (st : VSt) (i : Int) : (dEnts st i).length ≤ 8 := by
  unfold dEnts
  split
  · rw [entsL_len, size_list]
    have := iRead_size st i 0 128 (by decide)
    omega
  · simp
/-- Behind which byte Add writes. -/
def addO (z : Nat) (f : Int) : Int := if f < 0 then (z : Int) / 16 * 16 else f * 16
theorem addO_neg (z : Nat) : addO z (-1) = (z : Int) / 16 * 16 := by unfold addO; rw [if_pos (by decide)]
theorem addO_pos (z : Nat) (f : Int) (h : ¬ f < 0) : addO z f = f * 16 := by unfold addO; rw [if_neg h]
/-- What Find answers. -/
def fndN (es : List Ent) (s : ByteArray) : Int := if placeE es s < 0 then 0 else (es.getD (placeE es s).toNat (⟨#[]⟩, 0)).2
def fndB (es : List Ent) (s : ByteArray) : Bool := !decide (placeE es s < 0)
theorem placeE_at {es : List Ent} {s : ByteArray} (h : ¬ placeE es s < 0) : ∃ j : Nat, ∃ hj : j < es.length, placeE es s = j ∧ bearsE s es[j] = true := by
  unfold placeE at h ⊢
  split at h
  · rename_i hr
    rw [if_pos hr]
    rcases findI_cases (bearsE s) es with ⟨e, _⟩ | ⟨j, hj, e, hb, _⟩
    · rw [e] at h; exact absurd (by decide) h
    · exact ⟨j, hj, e, hb⟩
  · exact absurd (by decide) h
theorem placeE_ge (es : List Ent) (s : ByteArray) : -1 ≤ placeE es s ∧ placeE es s < es.length + 1 := by
  by_cases h : placeE es s < 0
  · unfold placeE at h ⊢
    split
    · rcases findI_cases (bearsE s) es with ⟨e, _⟩ | ⟨j, hj, e, hb, _⟩
      · omega
      · omega
    · omega
  · obtain ⟨j, hj, e, _⟩ := placeE_at h
    omega

theorem ER.maps {W W' : World} {L : Lay} {st : VSt} {a : Option Addr} {es : List Ent} (h : ER W a es) (hV : ViewAt W L st) (hm : Maps L W W') : ER W' a es := fun i hi => by
  obtain ⟨x, e, c, d⟩ := h i hi
  have key : ∀ (p : Addr) (v : Value), W.cell? p = some v → W'.cell? p = some v := by
    intro p v hp
    have hlt := World.block_lt_of_cell? _ _ hp
    obtain ⟨_, _, hr, _⟩ := hV.cr
    obtain ⟨_, _, hm', _⟩ := hV.cm
    have hne : ¬(p.block = L.r ∨ p.block = L.m) := by
      rintro (q | q)
      · unfold World.cell? at hp; rw [q, hr] at hp; simp at hp
      · unfold World.cell? at hp; rw [q, hm'] at hp; simp at hp
    rw [World.cell?_of_block (hm.block p.block (by simpa using hlt) hne)]
    exact hp
  exact ⟨x, e, key _ _ c, key _ _ d⟩

section
variable {w W : World} {t : Nat} {L : Lay} {d q : Nat} {st : VSt}

attribute [local irreducible] Int.lt Int.le
set_option maxRecDepth 100000 in
set_option maxHeartbeats 2000000 in
theorem s_find (hM : Mx w) (S : Std w t L d q st W) (i : Int) (s : ByteArray) (hs : s.size ≤ 1048576) (hz : ((iVal st i).s.size : Int) ≤ 140737488351232) :
    Calls Tryd.prog 11 #[.pointer (some ⟨L.v, 0, none⟩), .int .i64 i, .string s] W fun e W' => e = .returned (.tuple #[.int .i64 (fndN (dEnts st i) s), .bool (fndB (dEnts st i) s)]) ∧ Std w t L d q (iSaw st i) W' ∧ Maps L W W' := by
  have h1 := s_entries hM S i hz
  have hl := dEnts_len st i
  have hp := fun a c W h => place_any' a c (dEnts st i) s W (by omega) hs h
  by_cases hc : placeE (dEnts st i) s < 0
  · have e1 : fndN (dEnts st i) s = 0 := by unfold fndN; rw [if_pos hc]
    have e2 : fndB (dEnts st i) s = false := by unfold fndB; rw [decide_eq_true hc]; rfl
    rw [e1, e2]
    generalize dEnts st i = es at *
    generalize placeE es s = p at *
    clear e1 e2 hz hs
    go_enter Tryd.func11, Tryd.ntmps11
    go_wp2_with fail
    refine h1.mono ?_; rintro e W1 ⟨v, rfl, own, S1, t1⟩
    obtain ⟨a, c, rfl, er, _⟩ := own.er
    have hp1 := hp a c W1 er
    clear h1 hp own er
    go_wp2_with fail
    refine hp1.mono ?_; rintro e W2 ⟨rfl, t2⟩
    go_wp2_with fail
    go_ret2
    exact ⟨rfl, S1.below t2, Turn.trans t1 (Turn.of_below t2 _)⟩
  · obtain ⟨j, hj, e0, _⟩ := placeE_at hc
    have e1 : fndN (dEnts st i) s = (dEnts st i)[j].2 := by
      unfold fndN; rw [if_neg hc, e0]; simp [List.getD, List.getElem?_eq_getElem hj]
    have e2 : fndB (dEnts st i) s = true := by unfold fndB; rw [decide_eq_false hc]; rfl
    rw [e1, e2]
    rw [e0] at hp
    generalize dEnts st i = es at *
    have l1 : (j : Int) < (es.length : Int) := by omega
    have l0 : (0 : Int) ≤ (j : Int) := by omega
    clear e1 e2 hz hs hc e0
    go_enter Tryd.func11, Tryd.ntmps11
    go_wp2_with fail
    refine h1.mono ?_; rintro e W1 ⟨v, rfl, own, S1, t1⟩
    obtain ⟨a, c, rfl, er, _⟩ := own.er
    have hp1 := hp a c W1 er
    clear h1 hp own
    go_wp2_with fail
    refine hp1.mono ?_; rintro e W2 ⟨rfl, t2⟩
    obtain ⟨x, rfl, x0, x1⟩ := er.below t2 j hj
    clear hp1 er
    go_wp2_with fail
    go_ret2
    exact ⟨rfl, S1.below t2, Turn.trans t1 (Turn.of_below t2 _)⟩

/-- Where Add writes; none: nowhere. -/
def addAt (st : VSt) (i : Int) (s : ByteArray) (n : Int) : Option Int :=
  if (iVal st i).n 0 = 1 ∧ rightL s.data.toList = true ∧ thereE (s, n) = true ∧ placeE (dEnts st i) s < 0 then
    if addO (iVal st i).s.size (findI (fun e => !thereE e) (dEnts st i)) + 16 ≤ 128 then
      some (addO (iVal st i).s.size (findI (fun e => !thereE e) (dEnts st i)))
    else none
  else none
def dAdd (st : VSt) (i : Int) (s : ByteArray) (n : Int) : VSt := match addAt st i s n with
  | none => iSaw st i
  | some o => iWrite st i o (bs (packL s.data.toList n))
def dAddB (st : VSt) (i : Int) (s : ByteArray) (n : Int) : Bool := match addAt st i s n with
  | none => false
  | some o => iWrote st i o (bs (packL s.data.toList n)) == 16

set_option maxRecDepth 100000 in
set_option maxHeartbeats 2000000 in
theorem s_add_no (hM : Mx w) (S : Std w t L d q st W) (i : Int) (s : ByteArray) (n : Int) (hs : s.size ≤ 1048576) (hz : ((iVal st i).s.size : Int) ≤ 140737488351232)
    (hc : ¬((iVal st i).n 0 = 1 ∧ rightL s.data.toList = true ∧ thereE (s, n) = true ∧ placeE (dEnts st i) s < 0)) :
    Calls Tryd.prog 16 #[.pointer (some ⟨L.v, 0, none⟩), .int .i64 i, .string s, .int .i64 n] W fun e W' => e = .returned (.bool false) ∧ Std w t L d q (iSaw st i) W' ∧ Maps L W W' := by
  have h1 := s_entries hM S i hz
  have hl := dEnts_len st i
  have hp := fun a c W h => place_any' a c (dEnts st i) s W (by omega) hs h
  have h2 := fun {W1 : World} (S1 : Std w t L d q (iSaw st i) W1) => s_isdir S1 i
  simp only [iVal_iSaw, iSaw_iSaw] at h2
  have hr := fun W => right_any s W hs
  have ht := fun W => there_any s n W
  by_cases c1 : (iVal st i).n 0 = 1
  case' neg =>
    have b1 : ((iVal st i).n 0 == 1) = false := beq_eq_false_iff_ne.2 c1
    rw [b1] at h2
    clear hz hs hc c1 b1 hr ht hp
    go_enter Tryd.func16, Tryd.ntmps16
    go_wp2_with fail
    refine h1.mono ?_; rintro e W1 ⟨v, rfl, own, S1, t1⟩
    clear h1 own
    go_wp2_with fail
    refine (h2 S1).mono ?_; rintro e W2 ⟨rfl, S2, t2⟩
    clear h2 S1
    go_wp2_with fail
    go_ret
    exact ⟨rfl, S2, Turn.trans t1 t2⟩
  case pos =>
    have b1 : ((iVal st i).n 0 == 1) = true := beq_iff_eq.2 c1
    rw [b1] at h2
    cases c2 : rightL s.data.toList with
    | false =>
      rw [c2] at hr
      clear hz hs hc c1 b1 ht hp c2
      go_enter Tryd.func16, Tryd.ntmps16
      go_wp2_with fail
      refine h1.mono ?_; rintro e W1 ⟨v, rfl, own, S1, t1⟩
      clear h1 own
      go_wp2_with fail
      refine (h2 S1).mono ?_; rintro e W2 ⟨rfl, S2, t2⟩
      clear h2 S1
      go_wp2_with fail
      refine (hr _).mono ?_; rintro e W3 ⟨rfl, rfl⟩
      go_wp2_with fail
      go_ret
      exact ⟨rfl, S2, Turn.trans t1 t2⟩
    | true =>
      rw [c2] at hr
      cases c3 : thereE (s, n) with
      | false =>
        rw [c3] at ht
        clear hz hs hc c1 b1 hp c2 c3
        go_enter Tryd.func16, Tryd.ntmps16
        go_wp2_with fail
        refine h1.mono ?_; rintro e W1 ⟨v, rfl, own, S1, t1⟩
        clear h1 own
        go_wp2_with fail
        refine (h2 S1).mono ?_; rintro e W2 ⟨rfl, S2, t2⟩
        clear h2 S1
        go_wp2_with fail
        refine (hr _).mono ?_; rintro e W3 ⟨rfl, rfl⟩
        go_wp2_with fail
        refine (ht _).mono ?_; rintro e W3 ⟨rfl, t3⟩
        go_wp2_with fail
        go_ret
        exact ⟨rfl, S2.below t3, (Turn.trans t1 t2).trans (Turn.of_below t3 _)⟩
      | true =>
        rw [c3] at ht
        have c4 : 0 ≤ placeE (dEnts st i) s := by
          have : ¬ placeE (dEnts st i) s < 0 := fun q => hc ⟨c1, c2, c3, q⟩
          omega
        generalize dEnts st i = es at *
        generalize placeE es s = p at *
        clear hz hs hc c1 b1 c2 c3
        go_enter Tryd.func16, Tryd.ntmps16
        go_wp2_with fail
        refine h1.mono ?_; rintro e W1 ⟨v, rfl, own, S1, t1⟩
        obtain ⟨a, c, rfl, er, _⟩ := own.er
        clear h1 own
        go_wp2_with fail
        refine (h2 S1).mono ?_; rintro e W2 ⟨rfl, S2, t2⟩
        clear h2
        have er2 := er.maps S1.v t2
        clear er S1
        go_wp2_with fail
        refine (hr _).mono ?_; rintro e W3 ⟨rfl, rfl⟩
        go_wp2_with fail
        refine (ht _).mono ?_; rintro e W3 ⟨rfl, t3⟩
        go_wp2_with fail
        refine (hp _ _ _ (er2.below t3)).mono ?_; rintro e W4 ⟨rfl, t4⟩
        have S4 := (S2.below t3).below t4
        have T4 := ((Turn.trans t1 t2).trans (Turn.of_below t3 _)).trans (Turn.of_below t4 _)
        clear t1 t2 t3 t4 er2 S2 hp ht hr
        go_wp2_with fail
        go_ret
        exact ⟨rfl, S4, T4⟩

set_option maxRecDepth 100000 in
set_option maxHeartbeats 4000000 in
theorem s_add_yes (hM : Mx w) (S : Std w t L d q st W) (i : Int) (s : ByteArray) (n : Int) (hs : s.size ≤ 1048576) (hz : ((iVal st i).s.size : Int) ≤ 140737488351232)
    (hc : (iVal st i).n 0 = 1 ∧ rightL s.data.toList = true ∧ thereE (s, n) = true ∧ placeE (dEnts st i) s < 0) :
    Calls Tryd.prog 16 #[.pointer (some ⟨L.v, 0, none⟩), .int .i64 i, .string s, .int .i64 n] W fun e W' => e = .returned (.bool (dAddB st i s n)) ∧ Std w t L d q (dAdd st i s n) W' ∧ Maps L W W' := by
  have h1 := s_entries hM S i hz
  have hl := dEnts_len st i
  have hp := fun a c W h => place_any' a c (dEnts st i) s W (by omega) hs h
  have hf := fun a c W h => index_free a c (dEnts st i) W (by omega) h
  have h2 := fun {W1 : World} (S1 : Std w t L d q (iSaw st i) W1) => s_isdir S1 i
  have h3 := fun {W1 : World} (S1 : Std w t L d q (iSaw st i) W1) => s_size S1 i
  have hk := fun W => pack_any s n W hs
  simp only [iVal_iSaw, iSaw_iSaw] at h2 h3
  have hr := fun W => right_any s W hs
  have ht := fun W => there_any s n W
  have ea : addAt st i s n = if addO (iVal st i).s.size (findI (fun e => !thereE e) (dEnts st i)) + 16 ≤ 128 then
      some (addO (iVal st i).s.size (findI (fun e => !thereE e) (dEnts st i))) else none := by
    unfold addAt; rw [if_pos hc]
  have hg : -1 ≤ findI (fun e => !thereE e) (dEnts st i) ∧ findI (fun e => !thereE e) (dEnts st i) ≤ 8 := by
    rcases findI_cases (fun e => !thereE e) (dEnts st i) with ⟨e, _⟩ | ⟨j, hj, e, hb, _⟩ <;> omega
  obtain ⟨c1, c2, c3, c4⟩ := hc
  have b1 : ((iVal st i).n 0 == 1) = true := beq_iff_eq.2 c1
  rw [b1] at h2
  rw [c2] at hr
  rw [c3] at ht
  have hD : bs (packL s.data.toList n) = bs (packL s.data.toList n) := rfl
  have hw := fun {W1 : World} (o : Int) (S1 : Std w t L d q (iSaw st i) W1) => s_write S1 i o (bs (packL s.data.toList n)) (by rw [iVal_iSaw]; exact hz) (by rw [bs_size, packL_len]; decide)
  simp only [iWrote_iSaw, iWrite_iSaw] at hw
  obtain ⟨D, hD⟩ : ∃ D, D = bs (packL s.data.toList n) := ⟨_, rfl⟩
  have hR : ∀ o, addAt st i s n = some o → dAdd st i s n = iWrite st i o D ∧ dAddB st i s n = (iWrote st i o D == 16) := by
    intro o e; unfold dAdd dAddB; rw [e, hD]; exact ⟨rfl, rfl⟩
  have hN : addAt st i s n = none → dAdd st i s n = iSaw st i ∧ dAddB st i s n = false := by
    intro e; unfold dAdd dAddB; rw [e]; exact ⟨rfl, rfl⟩
  rw [← hD] at hw hk
  generalize addAt st i s n = A at *
  generalize dAdd st i s n = V at *
  generalize dAddB st i s n = X at *
  generalize dEnts st i = es at *
  generalize placeE es s = p at *
  generalize findI (fun e => !thereE e) es = f at *
  generalize ((iVal st i).s.size) = z at *
  clear hs c1 b1 c2 c3 hD
  have Ea := Lib.hid ea
  have HR := Lib.hid hR
  have HN := Lib.hid hN
  clear ea hR hN
  go_enter Tryd.func16, Tryd.ntmps16
  go_wp2_with fail
  refine h1.mono ?_; rintro e W1 ⟨v, rfl, own, S1, t1⟩
  obtain ⟨a, c, rfl, er, _⟩ := own.er
  clear h1 own
  go_wp2_with fail
  refine (h2 S1).mono ?_; rintro e W2 ⟨rfl, S2, t2⟩
  clear h2
  have er2 := er.maps S1.v t2
  clear er S1
  go_wp2_with fail
  refine (hr _).mono ?_; rintro e W3 ⟨rfl, rfl⟩
  go_wp2_with fail
  refine (ht _).mono ?_; rintro e W3 ⟨rfl, t3⟩
  have er3 := er2.below t3
  go_wp2_with fail
  refine (hp _ _ _ er3).mono ?_; rintro e W4 ⟨rfl, t4⟩
  have er4 := er3.below t4
  have S4 := (S2.below t3).below t4
  have T4 := ((Turn.trans t1 t2).trans (Turn.of_below t3 _)).trans (Turn.of_below t4 _)
  clear t1 t2 t3 t4 er2 er3 S2 hp ht hr S hM
  go_wp2_with fail
  refine (hf _ _ _ er4).mono ?_; rintro e W5 ⟨rfl, t5⟩
  have S5 := S4.below t5
  have T5 := T4.trans (Turn.of_below t5 _)
  clear hf er4 t5 S4 T4
  by_cases hf0 : f < 0
  · obtain rfl : f = -1 := by omega
    have e0 := Ea.out
    rw [addO_neg] at e0
    have HE := Lib.hid e0
    clear e0 Ea
    go_wp2_with fail
    refine (h3 S5).mono ?_; rintro e W6 ⟨rfl, S6, t6⟩
    have T6 := T5.trans t6
    clear h3 S5 T5 t6
    by_cases hk2 : (z : Int) / 16 * 16 + 16 ≤ 128
    · have eA := HE.out
      rw [if_pos hk2] at eA
      obtain ⟨v1, v2⟩ := HR.out _ eA
      have Hv1 := Lib.hid v1
      have Hv2 := Lib.hid v2
      clear v1 v2 eA HE HR HN
      go_wp2_with fail
      refine (hk _).mono ?_; rintro e W7 ⟨rfl, t7⟩
      have S7 := S6.below t7
      have T7 := T6.trans (Turn.of_below t7 _)
      clear hk S6 T6 t7
      go_wp2_with fail
      refine (hw _ S7).mono ?_; rintro e W8 ⟨rfl, S8, t8⟩
      go_wp2_with fail
      go_ret
      exact ⟨ret_bool Hv2.out.symm, by rw [Hv1.out]; exact S8, T7.trans t8⟩
    · have eA := HE.out
      rw [if_neg hk2] at eA
      obtain ⟨v1, v2⟩ := HN.out eA
      have Hv1 := Lib.hid v1
      have Hv2 := Lib.hid v2
      clear v1 v2 eA HE HR HN
      go_wp2_with fail
      go_ret
      exact ⟨ret_bool Hv2.out.symm, by rw [Hv1.out]; exact S6, T6⟩
  · have e0 := Ea.out
    rw [addO_pos z f hf0] at e0
    have HE := Lib.hid e0
    clear e0 Ea
    have hf1 : 0 ≤ f := by omega
    have hf2 : f ≤ 8 := hg.2
    by_cases hk2 : f * 16 + 16 ≤ 128
    · have eA := HE.out
      rw [if_pos hk2] at eA
      obtain ⟨v1, v2⟩ := HR.out _ eA
      have Hv1 := Lib.hid v1
      have Hv2 := Lib.hid v2
      clear v1 v2 eA HE HR HN hg
      go_wp2_with fail
      refine (hk _).mono ?_; rintro e W7 ⟨rfl, t7⟩
      have S7 := S5.below t7
      have T7 := T5.trans (Turn.of_below t7 _)
      clear hk S5 T5 t7
      go_wp2_with fail
      refine (hw _ S7).mono ?_; rintro e W8 ⟨rfl, S8, t8⟩
      go_wp2_with fail
      go_ret
      exact ⟨ret_bool Hv2.out.symm, by rw [Hv1.out]; exact S8, T7.trans t8⟩
    · have eA := HE.out
      rw [if_neg hk2] at eA
      obtain ⟨v1, v2⟩ := HN.out eA
      have Hv1 := Lib.hid v1
      have Hv2 := Lib.hid v2
      clear v1 v2 eA HE HR HN hg
      go_wp2_with fail
      go_ret
      exact ⟨ret_bool Hv2.out.symm, by rw [Hv1.out]; exact S5, T5⟩

theorem s_add (hM : Mx w) (S : Std w t L d q st W) (i : Int) (s : ByteArray) (n : Int) (hs : s.size ≤ 1048576) (hz : ((iVal st i).s.size : Int) ≤ 140737488351232) :
    Calls Tryd.prog 16 #[.pointer (some ⟨L.v, 0, none⟩), .int .i64 i, .string s, .int .i64 n] W fun e W' => e = .returned (.bool (dAddB st i s n)) ∧ Std w t L d q (dAdd st i s n) W' ∧ Maps L W W' := by
  by_cases hc : (iVal st i).n 0 = 1 ∧ rightL s.data.toList = true ∧ thereE (s, n) = true ∧ placeE (dEnts st i) s < 0
  · exact s_add_yes hM S i s n hs hz hc
  · have h := s_add_no hM S i s n hs hz hc
    have e : addAt st i s n = none := by unfold addAt; rw [if_neg hc]
    have e1 : dAdd st i s n = iSaw st i := by unfold dAdd; rw [e]
    have e2 : dAddB st i s n = false := by unfold dAddB; rw [e]
    rw [e1, e2]; exact h

/-- What Remove answers and leaves. -/
def dRem (st : VSt) (i : Int) (s : ByteArray) : VSt := if placeE (dEnts st i) s < 0 then iSaw st i else iWrite st i (placeE (dEnts st i) s * 16) (bs (packL [] 0))
def dRemB (st : VSt) (i : Int) (s : ByteArray) : Bool := if placeE (dEnts st i) s < 0 then false else iWrote st i (placeE (dEnts st i) s * 16) (bs (packL [] 0)) == 16
end
end Go.Proofs.YtcefigpdodlonaaDoor.St
