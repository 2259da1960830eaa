/- The contracts of package path: Walk, Parent. For texts of at most 2^20 bytes. -/
import Derived.Test.YtcefigpdodlonaaDoorPatA
import Derived.StillTailTactics
namespace Go.Proofs.YtcefigpdodlonaaDoor.St
open Go.RowKit
set_option linter.unusedVariables false

theorem TL.tr2 {B : Nat} {W : World} {v : Value} {ps : List ByteArray} (h : TL B W v ps) : ∃ a c, v = .slice a ps.length c ∧ TR W a ps ∧ ps.length ≤ c := by
  obtain ⟨a, c, e, tr, _⟩ := h.tr
  refine ⟨a, c, e, tr, ?_⟩
  rcases h.2 with ⟨q, h0⟩ | ⟨g, cap, cur, e', _, _, h1, _⟩
  · rw [h0]; exact Nat.zero_le _
  · rw [e] at e'; simp at e'; omega
/-- Where a path leads. -/
def pWalk (st : VSt) (cwd : Int) (s : ByteArray) : Option Int := if splOk s.data.toList = true then walkO st (if splB s.data.toList then 1 else cwd) (splN s.data.toList) else none
def pWalkV (st : VSt) (cwd : Int) (s : ByteArray) : VSt := if splOk s.data.toList = true then wsawO st (if splB s.data.toList then 1 else cwd) (splN s.data.toList) else st
theorem pWalkV_get (st : VSt) (cwd : Int) (s : ByteArray) (k n : Int) : (pWalkV st cwd s).get k n = st.get k n := by
  unfold pWalkV
  split
  · exact wsawO_get _ _ _ _ _
  · rfl
theorem splN_size (s : ByteArray) (hs : s.size ≤ 1048576) : ∀ p ∈ splN s.data.toList, p.size ≤ 1048576 := by
  intro p hp
  unfold splN at hp
  split at hp
  · obtain ⟨x, hx, rfl⟩ := List.mem_map.1 hp
    have := (namesL_sub _ _ hx).2.1
    rw [bs_size]
    rw [size_list] at this
    omega
  · simp at hp
theorem splN_len (s : ByteArray) : (splN s.data.toList).length ≤ s.size + 1 := by
  unfold splN
  split
  · rw [List.length_map]
    have := namesL_len s.data.toList
    rw [size_list] at this
    exact this
  · simp

section
variable {w W : World} {t : Nat} {L : Lay} {d q : Nat} {st : VSt}

attribute [local irreducible] Int.lt Int.le
set_option maxRecDepth 100000 in
set_option maxHeartbeats 4000000 in
theorem s_Walk (hM : Mx w) (S : Std w t L d q st W) (hS : Sm st) (i : Int) (s : ByteArray) (hs : s.size ≤ 500000) :
    Calls Tryd.prog 7 #[.pointer (some ⟨L.v, 0, none⟩), .int .i64 i, .string s] W fun e W' => e = .returned (.tuple #[.int .i64 ((pWalk st i s).getD 0), .bool (pWalk st i s).isSome]) ∧ Std w t L d q (pWalkV st i s) W' ∧ Maps L W W' := by
  have hsp := split_any s W (hM.below (Nat.le_refl _) S.b) (by omega)
  have hz := splN_size s (by omega)
  have hl := splN_len s
  unfold pWalk pWalkV
  cases hk : splOk s.data.toList with
  | false =>
    rw [if_neg (by simp), if_neg (by simp)]
    rw [hk] at hsp
    generalize splB s.data.toList = b at *
    generalize splN s.data.toList = ps at *
    clear hk hz
    go_enter Tryd.func7, Tryd.ntmps7
    go_wp2_with fail
    refine hsp.mono ?_; rintro e W1 ⟨v, rfl, own, b1⟩
    go_wp2_with fail
    go_ret2
    exact ⟨rfl, S.below b1, Turn.of_below b1 _⟩
  | true =>
    rw [if_pos rfl, if_pos rfl]
    rw [hk] at hsp
    generalize splB s.data.toList = b at *
    generalize splN s.data.toList = ps at *
    have hfr := fun W => from_any i b W
    have hw := fun {W1 : World} (S1 : Std w t L d q st W1) a c tr => s_walk hM S1 hS (if b then 1 else i) a c ps (by omega) hz tr
    generalize (if b = true then (1 : Int) else i) = x at *
    generalize walkO st x ps = R at *
    generalize wsawO st x ps = V at *
    clear hk hz
    go_enter Tryd.func7, Tryd.ntmps7
    go_wp2_with fail
    refine hsp.mono ?_; rintro e W1 ⟨v, rfl, own, b1⟩
    obtain ⟨a, c, rfl, tr, _⟩ := own.tr
    have S1 := S.below b1
    have hw1 := hw S1 a c tr
    clear hsp own tr hw hl
    go_wp2_with fail
    refine (hfr _).mono ?_; rintro e W2 ⟨rfl, rfl⟩
    go_wp2_with fail
    refine hw1.mono ?_; rintro e W3 ⟨rfl, S3, t3⟩
    go_wp2_with fail
    go_ret2
    exact ⟨rfl, S3, Turn.trans (Turn.of_below b1 _) t3⟩

/-- A path's parent, and its last name. -/
def pParE (st : VSt) (x : Int) (ps : List ByteArray) : Option (Int × ByteArray) := match ps.getLast? with
  | none => none
  | some s => match walkO st x ps.dropLast with
    | none => none
    | some y => if (iVal st y).n 0 = 1 then some (y, s) else none
def pParEV (st : VSt) (x : Int) (ps : List ByteArray) : VSt := match ps.getLast? with
  | none => st
  | some s => match walkO st x ps.dropLast with
    | none => wsawO st x ps.dropLast
    | some y => iSaw (wsawO st x ps.dropLast) y
def pPar (st : VSt) (cwd : Int) (s : ByteArray) : Option (Int × ByteArray) := if splOk s.data.toList = true then pParE st (if splB s.data.toList then 1 else cwd) (splN s.data.toList) else none
def pParV (st : VSt) (cwd : Int) (s : ByteArray) : VSt := if splOk s.data.toList = true then pParEV st (if splB s.data.toList then 1 else cwd) (splN s.data.toList) else st
theorem pParV_get (st : VSt) (cwd : Int) (s : ByteArray) (k n : Int) : (pParV st cwd s).get k n = st.get k n := by
  unfold pParV
  split
  · unfold pParEV
    split
    · rfl
    · split
      · exact wsawO_get _ _ _ _ _
      · rw [get_iSaw, wsawO_get]
  · rfl

set_option maxRecDepth 100000 in
set_option maxHeartbeats 4000000 in
theorem s_Parent (hM : Mx w) (S : Std w t L d q st W) (hS : Sm st) (i : Int) (s : ByteArray) (hs : s.size ≤ 500000) :
    Calls Tryd.prog 8 #[.pointer (some ⟨L.v, 0, none⟩), .int .i64 i, .string s] W fun e W' => e = .returned (.tuple #[.int .i64 ((pPar st i s).getD (0, ⟨#[]⟩)).1, .string ((pPar st i s).getD (0, ⟨#[]⟩)).2, .bool (pPar st i s).isSome]) ∧ Std w t L d q (pParV st i s) W' ∧ Maps L W W' := by
  have hsp := split_any s W (hM.below (Nat.le_refl _) S.b) (by omega)
  have hz := splN_size s (by omega)
  have hl := splN_len s
  unfold pPar pParV
  cases hk : splOk s.data.toList with
  | false =>
    rw [if_neg (by simp), if_neg (by simp)]
    rw [hk] at hsp
    generalize splB s.data.toList = b at *
    generalize splN s.data.toList = ps at *
    clear hk hz
    go_enter Tryd.func8, Tryd.ntmps8
    go_wp2_with fail
    refine hsp.mono ?_; rintro e W1 ⟨v, rfl, own, b1⟩
    go_wp2_with fail
    go_ret3
    exact ⟨rfl, S.below b1, Turn.of_below b1 _⟩
  | true =>
    rw [if_pos rfl, if_pos rfl]
    rw [hk] at hsp
    generalize splB s.data.toList = b at *
    generalize splN s.data.toList = ps at *
    have hfr := fun W => from_any i b W
    generalize (if b = true then (1 : Int) else i) = x at *
    clear hk
    rcases List.eq_nil_or_concat ps with rfl | ⟨qs, s0, rfl⟩
    · go_enter Tryd.func8, Tryd.ntmps8
      go_wp2_with fail
      refine hsp.mono ?_; rintro e W1 ⟨v, rfl, own, b1⟩
      obtain ⟨a, c, rfl, tr, _⟩ := own.tr
      go_wp2_with fail
      go_ret3
      exact ⟨rfl, S.below b1, Turn.of_below b1 _⟩
    · simp only [List.concat_eq_append] at *
      have e1 : pParE st x (qs ++ [s0]) = match walkO st x qs with
        | none => none
        | some y => if (iVal st y).n 0 = 1 then some (y, s0) else none := by unfold pParE; simp
      have e2 : pParEV st x (qs ++ [s0]) = match walkO st x qs with
        | none => wsawO st x qs
        | some y => iSaw (wsawO st x qs) y := by unfold pParEV; simp
      have hw := fun {W1 : World} (S1 : Std w t L d q st W1) a c tr => s_walk hM S1 hS x a c qs (by simp at hl; omega) (fun p hp => hz p (by simp [hp])) tr
      rw [e1, e2]
      have hlen : (qs ++ [s0]).length = qs.length + 1 := by simp
      have hV : ∀ y, (iVal (wsawO st x qs) y).n 0 = (iVal st y).n 0 := fun y => by unfold iVal; rw [wsawO_get]
      have hd := fun {W1 : World} y (S1 : Std w t L d q (wsawO st x qs) W1) => s_isdir S1 y
      simp only [hV] at hd
      have hql : qs.length ≤ 500001 := by simp at hl; omega
      clear e1 e2 hV hz hl hs
      generalize wsawO st x qs = V at *
      have l1 : (qs.length : Int) ≤ 500001 := by omega
      have hR : walkO st x qs = none ∨ (∃ y, walkO st x qs = some y ∧ (iVal st y).n 0 = 1) ∨ ∃ y, walkO st x qs = some y ∧ ¬ (iVal st y).n 0 = 1 := by
        cases h : walkO st x qs with
        | none => exact Or.inl rfl
        | some y =>
          by_cases q : (iVal st y).n 0 = 1
          · exact Or.inr (Or.inl ⟨y, rfl, q⟩)
          · exact Or.inr (Or.inr ⟨y, rfl, q⟩)
      rcases hR with hR | ⟨y, hR, hy⟩ | ⟨y, hR, hy⟩
      case' true.inr.inl =>
        rw [hR] at hw ⊢
        simp only [Option.getD_none, Option.isSome_none] at hw ⊢
        clear hR hd
      case' true.inr.inr.inl =>
        have hd1 := fun (W1 : World) (S1 : Std w t L d q V W1) => hd y S1
        rw [hy] at hd1
        rw [hR] at hw ⊢
        simp only [Option.getD_some, Option.isSome_some] at hw ⊢
        rw [if_pos hy]
        simp only [Option.getD_some, Option.isSome_some]
        clear hR hd hy
      case' true.inr.inr.inr =>
        have hd1 := fun (W1 : World) (S1 : Std w t L d q V W1) => hd y S1
        rw [show ((iVal st y).n 0 == 1) = false from beq_eq_false_iff_ne.2 hy] at hd1
        rw [hR] at hw ⊢
        simp only [Option.getD_some, Option.isSome_some] at hw ⊢
        rw [if_neg hy]
        simp only [Option.getD_none, Option.isSome_none]
        clear hR hd hy
      all_goals
        go_enter Tryd.func8, Tryd.ntmps8
        go_wp2_with fail
        refine hsp.mono ?_; rintro e W1 ⟨v, rfl, own, b1⟩
        obtain ⟨a, c, rfl, tr, hcap⟩ := own.tr2
        rw [hlen] at hcap
        have hcap2 : (qs.length : Int) ≤ (c : Int) := by omega
        have S1 := S.below b1
        have trq : TR W1 a qs := fun j hj => by
          have := tr j (by simp; omega)
          simpa [List.getElem_append_left hj] using this
        obtain ⟨xa, rfl, xc⟩ := tr qs.length (by simp)
        have trAll := tr
        rw [hlen]
        clear hlen hsp tr own
        go_wp2_with fail
        have S1d := S1.drew
        have trd : TR W1.drew (some xa) qs := trq.below ((Below.refl _ _).drew)
        have hw2 := hw S1d (some xa) c trd
        have trA : TR W1.drew (some xa) (qs ++ [s0]) := trAll.below ((Below.refl _ _).drew)
        have TT : Maps L W W1.drew := Turn.of_below (b1.drew) _
        clear hw trq trd xc S1 trAll
        obtain ⟨Wd, hWd⟩ : ∃ Wd, Wd = W1.drew := ⟨_, rfl⟩
        rw [← hWd] at hw2 trA TT S1d
        go_region_with (first
          | (go_at_call 19; refine (hfr _).mono ?_; rintro e W2 ⟨rfl, rfl⟩)
          | (go_at_call 18; rw [← hWd]; refine hw2.mono ?_; rintro e W3 ⟨rfl, S3, t3⟩))
      · clear trA
        go_wp2_with fail
        refine (hd1 _ S3).mono ?_; rintro e W4 ⟨rfl, S4, t4⟩
        go_wp2_with fail
        go_ret3
        exact ⟨rfl, S4, (Turn.trans TT t3).trans t4⟩
      · have tr3 := trA.maps S1d.v t3
        have SV3 := S3.v
        clear trA S1d
        go_wp2_with fail
        refine (hd1 _ S3).mono ?_; rintro e W4 ⟨rfl, S4, t4⟩
        obtain ⟨ya, ey, yc⟩ := (tr3.maps SV3 t4) qs.length (by simp)
        obtain rfl : xa = ya := by simpa using ey
        simp at yc
        have l0 : (0 : Int) ≤ (qs.length : Int) := by omega
        have l2 : (qs.length : Int) < (qs.length : Int) + 1 := by omega
        clear hd1 S3 tr3 ey
        go_wp2_with fail
        go_quiet (fail)
        have S5 := S4.drewN nq
        have T5 : Maps L W (W4.drewN nq) := ((Turn.trans TT t3).trans t4).drewN nq
        generalize W4.drewN nq = W5 at *
        go_wp2_with fail
        go_ret3
        exact ⟨rfl, S5, T5⟩
      · clear trA
        go_wp2_with fail
        go_ret3
        exact ⟨rfl, S3, Turn.trans TT t3⟩
end
end Go.Proofs.YtcefigpdodlonaaDoor.St
