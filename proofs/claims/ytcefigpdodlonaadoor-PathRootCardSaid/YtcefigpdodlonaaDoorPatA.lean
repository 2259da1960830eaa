/- The contracts of package path: from, walk, Walk, Parent. No condition but those written in each statement. -/
import Derived.Test.YtcefigpdodlonaaDoorDirE
import Derived.Test.YtcefigpdodlonaaDoorNmB
namespace Go.Proofs.YtcefigpdodlonaaDoor.St
open Go.RowKit
set_option linter.unusedVariables false

theorem TR.maps {W W' : World} {L : Lay} {st : VSt} {a : Option Addr} {ps : List ByteArray} (h : TR W a ps) (hV : ViewAt W L st) (hm : Maps L W W') : TR W' a ps := fun i hi => by
  obtain ⟨x, e, c⟩ := h i hi
  have hlt := World.block_lt_of_cell? _ _ c
  obtain ⟨_, _, hr, _⟩ := hV.cr
  obtain ⟨_, _, hm', _⟩ := hV.cm
  have hne : ¬((x.add i).block = L.r ∨ (x.add i).block = L.m) := by
    rintro (q | q)
    · unfold World.cell? at c; rw [q, hr] at c; simp at c
    · unfold World.cell? at c; rw [q, hm'] at c; simp at c
  refine ⟨x, e, ?_⟩
  rw [World.cell?_of_block (hm.block (x.add i).block (by simpa using hlt) hne)]
  exact c

theorem from_any (c : Int) (b : Bool) (w : World) : Calls Tryd.prog 19 #[.int .i64 c, .bool b] w fun e w' => e = .returned (.int .i64 (if b then 1 else c)) ∧ w = w' := by
  cases b with
  | true =>
    go_enter Tryd.func19, Tryd.ntmps19
    go_wp2_with fail
    go_ret
    exact ⟨rfl, rfl⟩
  | false =>
    go_enter Tryd.func19, Tryd.ntmps19
    go_wp2_with fail
    go_ret
    exact ⟨rfl, rfl⟩

/-- Each object's text is of a size that the calls bear. -/
def Sm (st : VSt) : Prop := ∀ i, ((iVal st i).s.size : Int) ≤ 140737488351232
theorem sm_val {st : VSt} (h : Sm st) (i : Int) : ((iVal st i).s.size : Int) ≤ 140737488351232 := h i
theorem sm_saw {st : VSt} (h : Sm st) (i : Int) : Sm (iSaw st i) := fun j => by rw [iVal_iSaw]; exact h j

/-- Where names lead from an inode on; none: nowhere. -/
def walkE (st : VSt) : Int → List ByteArray → Option Int
  | at', [] => some at'
  | at', s :: l => if fndB (dEnts st at') s = true ∧ iHas st (fndN (dEnts st at') s) = true then walkE st (fndN (dEnts st at') s) l else none
/-- What is read on the way. -/
def wsawE (st : VSt) : Int → List ByteArray → VSt
  | at', [] => st
  | at', s :: l => if fndB (dEnts st at') s = true then (if iHas st (fndN (dEnts st at') s) = true then wsawE (iSaw (iSaw st at') (fndN (dEnts st at') s)) (fndN (dEnts st at') s) l else iSaw (iSaw st at') (fndN (dEnts st at') s)) else iSaw st at'
def walkO (st : VSt) (at' : Int) (l : List ByteArray) : Option Int := if iHas st at' = true then walkE st at' l else none
def wsawO (st : VSt) (at' : Int) (l : List ByteArray) : VSt := if iHas st at' = true then wsawE (iSaw st at') at' l else iSaw st at'

theorem walkE_same {st st' : VSt} (h : ∀ k n, st'.get k n = st.get k n) : ∀ (l : List ByteArray) (a : Int), walkE st' a l = walkE st a l := by
  have hv : ∀ i, iVal st' i = iVal st i := fun i => by unfold iVal; rw [h]
  have hh : ∀ i, iHas st' i = iHas st i := fun i => by unfold iHas; rw [h]
  have he : ∀ i, dEnts st' i = dEnts st i := fun i => by unfold dEnts iRead; rw [hv]
  intro l
  induction l with
  | nil => intro a; rfl
  | cons s l ih => intro a; unfold walkE; rw [he, hh, ih]
theorem wsawE_get (l : List ByteArray) : ∀ (st : VSt) (a k n : Int), (wsawE st a l).get k n = st.get k n := by
  induction l with
  | nil => intro st a k n; rfl
  | cons s l ih =>
    intro st a k n
    unfold wsawE
    split
    · split
      · rw [ih, get_iSaw, get_iSaw]
      · rw [get_iSaw, get_iSaw]
    · rw [get_iSaw]
theorem wsawO_get (st : VSt) (a : Int) (l : List ByteArray) (k n : Int) : (wsawO st a l).get k n = st.get k n := by
  unfold wsawO
  split
  · rw [wsawE_get, get_iSaw]
  · rw [get_iSaw]

section
variable {w W : World} {t : Nat} {L : Lay} {d q : Nat} {st : VSt}

attribute [local irreducible] Int.lt Int.le
set_option maxRecDepth 100000 in
set_option maxHeartbeats 4000000 in
theorem s_walk (hM : Mx w) (S : Std w t L d q st W) (hS : Sm st) (i : Int) (a : Option Addr) (c : Nat) (ps : List ByteArray) (hn : ps.length ≤ 1000000) (hs : ∀ p ∈ ps, p.size ≤ 1048576) (tr : TR W a ps) :
    Calls Tryd.prog 18 #[.pointer (some ⟨L.v, 0, none⟩), .int .i64 i, .slice a ps.length c] W fun e W' => e = .returned (.tuple #[.int .i64 ((walkO st i ps).getD 0), .bool (walkO st i ps).isSome]) ∧ Std w t L d q (wsawO st i ps) W' ∧ Maps L W W' := by
  have h1 := s_is S i
  cases hh : iHas st i with
  | false =>
    have e1 : walkO st i ps = none := by unfold walkO; rw [hh]; rfl
    have e2 : wsawO st i ps = iSaw st i := by unfold wsawO; rw [hh]; rfl
    rw [e1, e2]
    rw [hh] at h1
    clear e1 e2 hh hs tr
    go_enter Tryd.func18, Tryd.ntmps18
    go_wp2_with fail
    refine h1.mono ?_; rintro e W1 ⟨rfl, S1, t1⟩
    go_wp2_with fail
    go_ret2
    exact ⟨rfl, S1, t1⟩
  | true =>
    have e1 : walkO st i ps = walkE (iSaw st i) i ps := by unfold walkO; rw [hh, if_pos rfl, walkE_same (fun k n => get_iSaw _ _ _ _)]
    have e2 : wsawO st i ps = wsawE (iSaw st i) i ps := by unfold wsawO; rw [hh]; rfl
    rw [e1, e2]
    rw [hh] at h1
    have hS1 := sm_saw hS i
    have SV := S.v
    clear e1 e2 hh hS S
    generalize iSaw st i = st1 at *
    obtain ⟨R, hR⟩ : ∃ R, R = walkE st1 i ps := ⟨_, rfl⟩
    obtain ⟨V, hV⟩ : ∃ V, V = wsawE st1 i ps := ⟨_, rfl⟩
    rw [← hR, ← hV]
    have HR := Lib.hid hR
    have HV := Lib.hid hV
    clear hR hV
    go_enter Tryd.func18, Tryd.ntmps18
    go_wp2_with fail
    refine h1.mono ?_; rintro e W1 ⟨rfl, S1, t1⟩
    have tr1 := tr.maps SV t1
    have T1 := Lib.hid t1
    clear h1 tr t1 SV
    go_wp2_with fail
    go_loopw [1, 18] (fun at' k wr => ∃ (x : Int) (j : Nat) (st2 : VSt), j ≤ ps.length ∧ at' = .int .i64 x ∧ k = .int .i64 (j : Int) ∧ walkE st2 x (ps.drop j) = R ∧ wsawE st2 x (ps.drop j) = V ∧ Sm st2 ∧ Std w t L d q st2 wr ∧ Maps L W wr ∧ TR wr a ps) (fun _ k _ => ps.length - (intOf k).toNat)
    case atStart => exact ⟨i, 0, st1, Nat.zero_le _, rfl, rfl, HR.out.symm, HV.out.symm, hS1, S1, T1.out, tr1⟩
    case round =>
      clear S1 hS1 tr1 T1
      obtain ⟨x, j, st2, hj, rfl, rfl, hR, hV, hS2, S2, T2, tr2⟩ := hrel
      by_cases hlt : j < ps.length
      · have l1 : (j : Int) < (ps.length : Int) := by omega
        have l0 : (0 : Int) ≤ (j : Int) := by omega
        obtain ⟨xa, rfl, xc⟩ := tr2 j hlt
        have hd : ps.drop j = ps[j] :: ps.drop (j + 1) := List.drop_eq_getElem_cons hlt
        rw [hd] at hR hV
        have hsz := hs ps[j] (List.getElem_mem hlt)
        have hf := s_find hM S2 x ps[j] hsz (sm_val hS2 x)
        have hi := fun {W3 : World} (S3 : Std w t L d q (iSaw st2 x) W3) => s_is S3 (fndN (dEnts st2 x) ps[j])
        simp only [iHas_iSaw] at hi
        have SV2 := S2.v
        have T2' := Lib.hid T2
        clear HR HV T2
        rw [walkE] at hR
        rw [wsawE] at hV
        cases hb : fndB (dEnts st2 x) ps[j] with
        | false =>
          rw [hb] at hf hR hV
          rw [if_neg (by simp)] at hR hV
          have HR := Lib.hid hR
          have HV := Lib.hid hV
          generalize fndN (dEnts st2 x) ps[j] = y at *
          generalize ps[j] = s at *
          clear hR hV hd hb hi hs hsz hS2 tr2
          go_wp2_with fail
          refine hf.mono ?_; rintro e W3 ⟨rfl, S3, t3⟩
          clear hf S2
          go_wp2_with fail
          go_ret2
          rw [← HR.out, ← HV.out]
          exact ⟨rfl, S3, Turn.trans T2'.out t3⟩
        | true =>
          rw [hb] at hf hR hV
          cases hh : iHas st2 (fndN (dEnts st2 x) ps[j]) with
          | false =>
            rw [hh] at hi hR hV
            rw [if_neg (by simp)] at hR
            rw [if_pos rfl, if_neg (by simp)] at hV
            have HR := Lib.hid hR
            have HV := Lib.hid hV
            generalize fndN (dEnts st2 x) ps[j] = y at *
            generalize ps[j] = s at *
            clear hR hV hd hb hs hsz hS2 tr2 hh
            go_wp2_with fail
            refine hf.mono ?_; rintro e W3 ⟨rfl, S3, t3⟩
            clear hf S2
            go_wp2_with fail
            refine (hi S3).mono ?_; rintro e W4 ⟨rfl, S4, t4⟩
            clear hi S3
            go_wp2_with fail
            go_ret2
            rw [← HR.out, ← HV.out]
            exact ⟨rfl, S4, (Turn.trans T2'.out t3).trans t4⟩
          | true =>
            rw [hh] at hi hR hV
            rw [if_pos ⟨rfl, rfl⟩] at hR
            rw [if_pos rfl, if_pos rfl] at hV
            have hR2 : walkE (iSaw (iSaw st2 x) (fndN (dEnts st2 x) ps[j])) (fndN (dEnts st2 x) ps[j]) (ps.drop (j + 1)) = R := by
              rw [walkE_same (st := st2) (fun k n => by rw [get_iSaw, get_iSaw])]; exact hR
            have HR := Lib.hid hR2
            have HV := Lib.hid hV
            have hS4 := sm_saw (sm_saw hS2 x) (fndN (dEnts st2 x) ps[j])
            have TR2 := Lib.hid tr2
            generalize fndN (dEnts st2 x) ps[j] = y at *
            generalize ps[j] = s at *
            clear hR hR2 hV hd hb hs hsz hS2 hh tr2
            go_wp2_with fail
            refine hf.mono ?_; rintro e W3 ⟨rfl, S3, t3⟩
            have SV3 := S3.v
            clear hf S2
            go_wp2_with fail
            refine (hi S3).mono ?_; rintro e W4 ⟨rfl, S4, t4⟩
            clear hi S3
            go_wp2_with fail
            have tr4 := (TR2.out.maps SV2 t3).maps SV3 t4
            exact ⟨⟨y, j + 1, _, by omega, rfl, by go_num, HR.out, HV.out, hS4, S4, (Turn.trans T2'.out t3).trans t4, tr4⟩, by simp [intOf]; omega⟩
      · obtain rfl : j = ps.length := by omega
        rw [List.drop_length] at hR hV
        have hR' : R = some x := hR.symm
        have hV' : V = st2 := hV.symm
        have HR2 := Lib.hid hR'
        have HV2 := Lib.hid hV'
        clear hR hV hR' hV' tr2 hs hS2
        go_wp2_with fail
        go_ret2
        rw [HR2.out, HV2.out]
        exact ⟨rfl, S2, T2⟩
end
end Go.Proofs.YtcefigpdodlonaaDoor.St
