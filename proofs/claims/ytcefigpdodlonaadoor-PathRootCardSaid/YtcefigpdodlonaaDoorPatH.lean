/- Paths through trees, step by step. No condition but those written in each statement. -/
import Derived.Test.YtcefigpdodlonaaDoorPatG
namespace Go.Proofs.YtcefigpdodlonaaDoor.St
open Go.RowKit
set_option linter.unusedVariables false

/-! ### pieces of a path -/
theorem pcs_append (b : List UInt8) : ∀ a : List UInt8, pcs (a ++ 47 :: b) = pcs a ++ pcs b
  | [] => by rw [List.nil_append, pcs_slash]; rfl
  | c :: t => by
    have ih := pcs_append b t
    by_cases h : c = 47
    · subst h; rw [List.cons_append, pcs_slash, pcs_slash, ih]; rfl
    · rw [List.cons_append, pcs, pcs, if_neg h, if_neg h, ih]
      cases hp : pcs t with
      | nil => exact absurd hp (pcs_ne t)
      | cons p r => rfl
theorem pcs_plain : ∀ l : List UInt8, ¬ 47 ∈ l → pcs l = [l]
  | [], _ => rfl
  | c :: t, h => by
    have h1 : ¬ c = 47 := fun e => h (by simp [e])
    rw [pcs, if_neg h1, pcs_plain t (fun q => h (by simp [q]))]
theorem namesL_append (a b : List UInt8) : namesL (a ++ 47 :: b) = namesL a ++ namesL b := by
  unfold namesL; rw [pcs_append, nePcs_append]
theorem right_parts {l : List UInt8} (h : rightL l = true) : l ≠ [] ∧ l.length ≤ 14 ∧ ¬ 47 ∈ l ∧ ¬ 0 ∈ l := by
  unfold rightL at h
  simp at h
  obtain ⟨⟨⟨h1, h2⟩, h3⟩, h4⟩ := h
  exact ⟨h1, h2, h3, h4⟩
theorem namesL_right {l : List UInt8} (h : rightL l = true) : namesL l = [l] := by
  obtain ⟨h1, _, h3, _⟩ := right_parts h
  unfold namesL
  rw [pcs_plain l h3, nePcs_cons, if_neg h1]; rfl
/-- A path's names as texts. -/
def nmB (l : List UInt8) : List ByteArray := (namesL l).map bs
theorem nmB_append (a b : List UInt8) : nmB (a ++ 47 :: b) = nmB a ++ nmB b := by unfold nmB; rw [namesL_append, List.map_append]
theorem nmB_right {s : ByteArray} (h : rightL s.data.toList = true) : nmB s.data.toList = [s] := by
  unfold nmB; rw [namesL_right h]; simp [bs_list]
theorem spl_of {l : List UInt8} (h0 : 0 < l.length) (h1 : l.length ≤ 60) (h : (namesL l).all rightL = true) : splOk l = true ∧ splN l = nmB l := by
  have e := splOk_is h0 h1
  rw [h] at e
  exact ⟨e, by unfold splN nmB; rw [e, if_pos rfl]⟩
theorem splB_of {l : List UInt8} (h : splOk l = true) : splB l = (l.head? == some 47) := by unfold splB; rw [h]; rfl

/-- A path so far: where it leads, how long it is. -/
structure PW (st : VSt) (l : List UInt8) (a : Int) (n : Nat) : Prop where
  len : l.length ≤ n
  head : l = [] ∨ l.head? = some 47
  ok : (namesL l).all rightL = true
  go : walkE st 1 (nmB l) = some a
theorem PW.same {st st' : VSt} {l : List UInt8} {a : Int} {n : Nat} (h : PW st l a n) (e : ∀ k n, st'.get k n = st.get k n) : PW st' l a n :=
  ⟨h.len, h.head, h.ok, by rw [walkE_same e]; exact h.go⟩

section
variable {st : VSt} {m : Nat} {K : Int → Bool} {R : Int → List Ent} {par : Int → Int} {l : List UInt8} {a : Int} {n : Nat} {s : ByteArray}

/-- The path with names behind it. -/
theorem path_more (P : PW st l a n) (x : List UInt8) (hx : (namesL x).all rightL = true) (hl : n + 1 + x.length ≤ 60) :
    splOk (l ++ 47 :: x) = true ∧ splB (l ++ 47 :: x) = true ∧ splN (l ++ 47 :: x) = nmB l ++ nmB x := by
  have hlen := P.len
  obtain ⟨h1, h2⟩ := spl_of (l := l ++ 47 :: x) (by simp; omega) (by simp; omega) (by rw [namesL_append, List.all_append, P.ok, hx]; rfl)
  refine ⟨h1, ?_, by rw [h2, nmB_append]⟩
  rw [splB_of h1]
  rcases P.head with rfl | h
  · rfl
  · cases l with
    | nil => simp at h
    | cons b t => simp at h ⊢; exact h
theorem walk_from (G : GT st m K R par) (P : PW st l a n) (ps : List ByteArray) : walkO st 1 (nmB l ++ ps) = walkE st a ps := by
  unfold walkO
  rw [G.has_in (by decide) (by have := G.le; omega), if_pos rfl, walk_app, P.go]
/-- What is found; below which number. -/
theorem step_val (G : GT st m K R par) (hs : isLet s) : stepE st a s = if fndB (dEnts st a) s = true then some (fndN (dEnts st a) s) else none := rfl
theorem walk_q (G : GT st m K R par) (P : PW st l a n) (hs : isLet s) (hl : n ≤ 50) (c : Int) : ∀ q : ByteArray, q.data.toList = l ++ 47 :: s.data.toList → pWalk st c q = stepE st a s := by
  intro q hq
  have hsl := hs.size
  obtain ⟨h1, h2, h3⟩ := path_more P s.data.toList (by rw [namesL_right hs.right]; simp [hs.right]) (by rw [size_list]; omega)
  unfold pWalk
  rw [hq, h1, h2, h3, if_pos rfl, if_pos rfl, nmB_right hs.right, walk_from G P, G.walk_let a hs]
theorem par_q (G : GT st m K R par) (P : PW st l a n) (hs : isLet s) (hl : n ≤ 50) (c : Int) : ∀ q : ByteArray, q.data.toList = l ++ 47 :: s.data.toList → pPar st c q = if isD m K a = true then some (a, s) else none := by
  intro q hq
  have hsl := hs.size
  obtain ⟨h1, h2, h3⟩ := path_more P s.data.toList (by rw [namesL_right hs.right]; simp [hs.right]) (by rw [size_list]; omega)
  unfold pPar
  rw [hq, h1, h2, h3, if_pos rfl, if_pos rfl, nmB_right hs.right]
  unfold pParE
  have hw := walk_from G P []
  rw [List.append_nil] at hw
  rw [show (nmB l ++ [s]).getLast? = some s by simp, show (nmB l ++ [s]).dropLast = nmB l by simp]
  simp only [hw, walkE]
  have ht := G.type a
  cases hd : isD m K a with
  | true => rw [hd] at ht; rw [if_pos (beq_iff_eq.1 ht)]; rfl
  | false => rw [hd] at ht; rw [if_neg (beq_eq_false_iff_ne.1 ht)]; rfl
theorem walk_s (G : GT st m K R par) (hs : isLet s) (h1 : 1 ≤ a) (h2 : a ≤ m) : pWalk st a s = stepE st a s := by
  have hsl := hs.size
  obtain ⟨x1, x2⟩ := spl_of (l := s.data.toList) (by rw [size_list]; omega) (by rw [size_list]; omega) (by rw [namesL_right hs.right]; simp [hs.right])
  have x3 : splB s.data.toList = false := by
    rw [splB_of x1]
    obtain ⟨g, hg, rfl⟩ := hs
    have := (let_facts g hg).2.2.2.2.1
    cases hq : (letS g).data.toList with
    | nil => rfl
    | cons b t =>
      rw [hq] at this
      simp at this ⊢
      exact fun e => this.1 e.symm
  unfold pWalk
  rw [x1, x2, x3, if_pos rfl, if_neg (by decide), nmB_right hs.right]
  unfold walkO
  rw [G.has_in h1 h2, if_pos rfl, G.walk_let a hs]
theorem walk_dotq (G : GT st m K R par) (P : PW st l a n) (hs : isLet s) (hl : n ≤ 50) (c : Int) : ∀ q : ByteArray, q.data.toList = (l ++ 47 :: s.data.toList) ++ [47, 46] → pWalk st c q = if (fndB (dEnts st a) s && isD m K (fndN (dEnts st a) s)) = true then some (fndN (dEnts st a) s) else none := by
  intro q hq
  have hsl := hs.size
  have hx : namesL (s.data.toList ++ 47 :: [46]) = [s.data.toList, [46]] := by rw [namesL_append, namesL_right hs.right]; rfl
  obtain ⟨h1, h2, h3⟩ := path_more P (s.data.toList ++ 47 :: [46]) (by rw [hx]; simp [hs.right]; decide) (by simp; omega)
  have he : (l ++ 47 :: s.data.toList) ++ [47, 46] = l ++ 47 :: (s.data.toList ++ 47 :: [46]) := by simp
  unfold pWalk
  rw [hq, he, h1, h2, h3, if_pos rfl, if_pos rfl, walk_from G P, nmB_append, nmB_right hs.right, walk_app, G.walk_let a hs]
  unfold stepE
  cases hf : fndB (dEnts st a) s with
  | false => rfl
  | true =>
    rw [if_pos rfl]
    show walkE st (fndN (dEnts st a) s) [dotB] = _
    rw [G.walk_dot, Bool.true_and]
theorem walk_dotsq (G : GT st m K R par) (P : PW st l a n) (hs : isLet s) (hl : n ≤ 50) (c : Int) : ∀ q : ByteArray, q.data.toList = (l ++ 47 :: s.data.toList) ++ [47, 46, 46] → pWalk st c q = if (fndB (dEnts st a) s && isD m K (fndN (dEnts st a) s)) = true then some a else none := by
  intro q hq
  have hsl := hs.size
  have hx : namesL (s.data.toList ++ 47 :: [46, 46]) = [s.data.toList, [46, 46]] := by rw [namesL_append, namesL_right hs.right]; rfl
  obtain ⟨h1, h2, h3⟩ := path_more P (s.data.toList ++ 47 :: [46, 46]) (by rw [hx]; simp [hs.right]; decide) (by simp; omega)
  have he : (l ++ 47 :: s.data.toList) ++ [47, 46, 46] = l ++ 47 :: (s.data.toList ++ 47 :: [46, 46]) := by simp
  unfold pWalk
  rw [hq, he, h1, h2, h3, if_pos rfl, if_pos rfl, walk_from G P, nmB_append, nmB_right hs.right, walk_app, G.walk_let a hs]
  unfold stepE
  cases hf : fndB (dEnts st a) s with
  | false => rfl
  | true =>
    rw [if_pos rfl]
    show walkE st (fndN (dEnts st a) s) [dotsB] = _
    rw [G.walk_dots, Bool.true_and]
    cases hd : isD m K (fndN (dEnts st a) s) with
    | false => rfl
    | true => rw [if_pos rfl, if_pos rfl, (G.step hs hf).2.2.2 hd]
theorem PW.next (G : GT st m K R par) (P : PW st l a n) (hs : isLet s) (hf : fndB (dEnts st a) s = true) : PW st (l ++ 47 :: s.data.toList) (fndN (dEnts st a) s) (n + 2) := by
  have hsl := hs.size
  refine ⟨by simp; have := P.len; omega, Or.inr ?_, by rw [namesL_append, List.all_append, P.ok, namesL_right hs.right]; simp [hs.right], ?_⟩
  · rcases P.head with rfl | h
    · rfl
    · cases l with
      | nil => simp at h
      | cons b t => simp at h ⊢; exact h
  · rw [nmB_append, nmB_right hs.right, walk_app, P.go]
    show walkE st a [s] = _
    rw [G.walk_let a hs]
    unfold stepE; rw [if_pos hf]
end
section
variable {w W : World} {t : Nat} {L : Lay} {d q : Nat} {st : VSt} {m : Nat} {K : Int → Bool} {R : Int → List Ent} {par : Int → Int}
theorem g_Walk (hM : Mx w) (S : Std w t L d q st W) (G : GT st m K R par) (i : Int) (s : ByteArray) (hs : s.size ≤ 500000) : Calls Tryd.prog 7 #[.pointer (some ⟨L.v, 0, none⟩), .int .i64 i, .string s] W fun e W' => e = .returned (.tuple #[.int .i64 ((pWalk st i s).getD 0), .bool (pWalk st i s).isSome]) ∧ ∃ st', (∀ k n, st'.get k n = st.get k n) ∧ Std w t L d q st' W' :=
  (s_Walk hM S G.sm i s hs).mono fun e W' ⟨a, b, _⟩ => ⟨a, _, fun k n => pWalkV_get _ _ _ _ _, b⟩
theorem g_Par (hM : Mx w) (S : Std w t L d q st W) (G : GT st m K R par) (i : Int) (s : ByteArray) (hs : s.size ≤ 500000) : Calls Tryd.prog 8 #[.pointer (some ⟨L.v, 0, none⟩), .int .i64 i, .string s] W fun e W' => e = .returned (.tuple #[.int .i64 ((pPar st i s).getD (0, ⟨#[]⟩)).1, .string ((pPar st i s).getD (0, ⟨#[]⟩)).2, .bool (pPar st i s).isSome]) ∧ ∃ st', (∀ k n, st'.get k n = st.get k n) ∧ Std w t L d q st' W' :=
  (s_Parent hM S G.sm i s hs).mono fun e W' ⟨a, b, _⟩ => ⟨a, _, fun k n => pParV_get _ _ _ _ _, b⟩

/-- Where a walk stands: a path that leads to an inode, and a name. -/
structure PS (w W : World) (t : Nat) (L : Lay) (d q : Nat) (m : Nat) (K : Int → Bool) (R : Int → List Ent) (par : Int → Int) (l : List UInt8) (a : Int) (n : Nat) (s : ByteArray) (fo : Bool) (y : Int) : Prop where
  ex : ∃ st, GT st m K R par ∧ PW st l a n ∧ Std w t L d q st W ∧ fndB (dEnts st a) s = fo ∧ fndN (dEnts st a) s = y
  ls : isLet s
  n50 : n ≤ 50
  a1 : 1 ≤ a ∧ a ≤ (m : Int)
theorem dEnts_same {st st' : VSt} (h : ∀ k n, st'.get k n = st.get k n) (j : Int) : dEnts st' j = dEnts st j := by
  unfold dEnts iRead iVal; rw [h]
section
variable {l : List UInt8} {a : Int} {n : Nat} {s : ByteArray} {fo : Bool} {y : Int}
theorem PS.to {W' : World} (P : PS w W t L d q m K R par l a n s fo y) (st st' : VSt) (G : GT st m K R par) (X : PW st l a n) (f1 : fndB (dEnts st a) s = fo) (f2 : fndN (dEnts st a) s = y) (e : ∀ k n, st'.get k n = st.get k n) (S : Std w t L d q st' W') : PS w W' t L d q m K R par l a n s fo y :=
  ⟨⟨st', G.same e, X.same e, S, by rw [dEnts_same e]; exact f1, by rw [dEnts_same e]; exact f2⟩, P.ls, P.n50, P.a1⟩
theorem PS.cell (P : PS w W t L d q m K R par l a n s fo y) : W.cell? ⟨t, 1, none⟩ = some (.pointer (some ⟨L.v, 0, none⟩)) := by
  obtain ⟨st, _, _, S, _⟩ := P.ex; exact S.cell
theorem PS.b (P : PS w W t L d q m K R par l a n s fo y) : Below w.heap.size w W := by
  obtain ⟨st, _, _, S, _⟩ := P.ex; exact S.b
theorem fnd_zero {es : List Ent} {s : ByteArray} (h : fndB es s = false) : fndN es s = 0 := by
  unfold fndN; rw [if_pos (fnd_place h)]
theorem step_get (st : VSt) (a : Int) (s : ByteArray) : (stepE st a s).getD 0 = fndN (dEnts st a) s ∧ (stepE st a s).isSome = fndB (dEnts st a) s := by
  unfold stepE
  cases h : fndB (dEnts st a) s with
  | true => exact ⟨rfl, rfl⟩
  | false => exact ⟨(fnd_zero h).symm, rfl⟩
theorem ps_walk (hM : Mx w) (P : PS w W t L d q m K R par l a n s fo y) (c : Int) (x : ByteArray) (hx : x.data.toList = l ++ 47 :: s.data.toList) : Calls Tryd.prog 7 #[.pointer (some ⟨L.v, 0, none⟩), .int .i64 c, .string x] W fun e W' => e = .returned (.tuple #[.int .i64 y, .bool fo]) ∧ PS w W' t L d q m K R par l a n s fo y := by
  obtain ⟨st, G, X, S, f1, f2⟩ := P.ex
  have h := g_Walk hM S G c x (by rw [← size_list, hx]; simp [P.ls.size]; have := X.len; have := P.n50; omega)
  rw [walk_q G X P.ls P.n50 c x hx, (step_get st a s).1, (step_get st a s).2, f1, f2] at h
  exact h.mono fun e W' ⟨p, st', e1, S'⟩ => ⟨p, P.to st st' G X f1 f2 e1 S'⟩
theorem ps_par (hM : Mx w) (P : PS w W t L d q m K R par l a n s fo y) (c : Int) (x : ByteArray) (hx : x.data.toList = l ++ 47 :: s.data.toList) : Calls Tryd.prog 8 #[.pointer (some ⟨L.v, 0, none⟩), .int .i64 c, .string x] W fun e W' => e = .returned (.tuple #[.int .i64 (if isD m K a = true then a else 0), .string (if isD m K a = true then s else ⟨#[]⟩), .bool (isD m K a)]) ∧ PS w W' t L d q m K R par l a n s fo y := by
  obtain ⟨st, G, X, S, f1, f2⟩ := P.ex
  have h := g_Par hM S G c x (by rw [← size_list, hx]; simp [P.ls.size]; have := X.len; have := P.n50; omega)
  rw [par_q G X P.ls P.n50 c x hx] at h
  refine h.mono fun e W' ⟨p, st', e1, S'⟩ => ⟨?_, P.to st st' G X f1 f2 e1 S'⟩
  rw [p]
  cases isD m K a <;> rfl
theorem ps_walks (hM : Mx w) (P : PS w W t L d q m K R par l a n s fo y) : Calls Tryd.prog 7 #[.pointer (some ⟨L.v, 0, none⟩), .int .i64 a, .string s] W fun e W' => e = .returned (.tuple #[.int .i64 y, .bool fo]) ∧ PS w W' t L d q m K R par l a n s fo y := by
  obtain ⟨st, G, X, S, f1, f2⟩ := P.ex
  have h := g_Walk hM S G a s (by rw [P.ls.size]; decide)
  rw [walk_s G P.ls P.a1.1 P.a1.2, (step_get st a s).1, (step_get st a s).2, f1, f2] at h
  exact h.mono fun e W' ⟨p, st', e1, S'⟩ => ⟨p, P.to st st' G X f1 f2 e1 S'⟩
theorem ps_dot (hM : Mx w) (P : PS w W t L d q m K R par l a n s fo y) (c : Int) (x : ByteArray) (hx : x.data.toList = (l ++ 47 :: s.data.toList) ++ [47, 46]) : Calls Tryd.prog 7 #[.pointer (some ⟨L.v, 0, none⟩), .int .i64 c, .string x] W fun e W' => e = .returned (.tuple #[.int .i64 (if (fo && isD m K y) = true then y else 0), .bool (fo && isD m K y)]) ∧ PS w W' t L d q m K R par l a n s fo y := by
  obtain ⟨st, G, X, S, f1, f2⟩ := P.ex
  have h := g_Walk hM S G c x (by rw [← size_list, hx]; simp [P.ls.size]; have := X.len; have := P.n50; omega)
  rw [walk_dotq G X P.ls P.n50 c x hx, f1, f2] at h
  refine h.mono fun e W' ⟨p, st', e1, S'⟩ => ⟨?_, P.to st st' G X f1 f2 e1 S'⟩
  rw [p]
  cases (fo && isD m K y) <;> rfl
theorem ps_dots (hM : Mx w) (P : PS w W t L d q m K R par l a n s fo y) (c : Int) (x : ByteArray) (hx : x.data.toList = (l ++ 47 :: s.data.toList) ++ [47, 46, 46]) : Calls Tryd.prog 7 #[.pointer (some ⟨L.v, 0, none⟩), .int .i64 c, .string x] W fun e W' => e = .returned (.tuple #[.int .i64 (if (fo && isD m K y) = true then a else 0), .bool (fo && isD m K y)]) ∧ PS w W' t L d q m K R par l a n s fo y := by
  obtain ⟨st, G, X, S, f1, f2⟩ := P.ex
  have h := g_Walk hM S G c x (by rw [← size_list, hx]; simp [P.ls.size]; have := X.len; have := P.n50; omega)
  rw [walk_dotsq G X P.ls P.n50 c x hx, f1, f2] at h
  refine h.mono fun e W' ⟨p, st', e1, S'⟩ => ⟨?_, P.to st st' G X f1 f2 e1 S'⟩
  rw [p]
  cases (fo && isD m K y) <;> rfl
theorem ps_is (P : PS w W t L d q m K R par l a n s fo y) (i : Int) : Calls Tryd.prog 12 #[.pointer (some ⟨L.v, 0, none⟩), .int .i64 i] W fun e W' => e = .returned (.bool (isD m K i)) ∧ PS w W' t L d q m K R par l a n s fo y := by
  obtain ⟨st, G, X, S, f1, f2⟩ := P.ex
  have h := s_isdir S i
  rw [G.type] at h
  exact h.mono fun e W' ⟨p, S', _⟩ => ⟨p, P.to st _ G X f1 f2 (fun k n => get_iSaw _ _ _ _) S'⟩
/-- A path that leads to an inode. -/
def PA (w W : World) (t : Nat) (L : Lay) (d q : Nat) (m : Nat) (K : Int → Bool) (R : Int → List Ent) (par : Int → Int) (l : List UInt8) (a : Int) (n : Nat) : Prop :=
  ∃ st, GT st m K R par ∧ PW st l a n ∧ Std w t L d q st W ∧ 1 ≤ a ∧ a ≤ (m : Int)
theorem pa_find (hM : Mx w) (P : PA w W t L d q m K R par l a n) (hn : n ≤ 50) (hs : isLet s) : Calls Tryd.prog 11 #[.pointer (some ⟨L.v, 0, none⟩), .int .i64 a, .string s] W fun e W' => ∃ fo y, e = .returned (.tuple #[.int .i64 y, .bool fo]) ∧ ((fo = true → isD m K a = true) ∧ (fo = false → y = 0)) ∧ PS w W' t L d q m K R par l a n s fo y := by
  obtain ⟨st, G, X, S, a1⟩ := P
  refine (s_find hM S a s (by rw [hs.size]; decide) (G.sm a)).mono fun e W' ⟨p, S', _⟩ => ⟨_, _, p, ⟨fun h => (G.step hs h).1, fnd_zero⟩, ⟨_, G.same (fun k n => get_iSaw _ _ _ _), X.same (fun k n => get_iSaw _ _ _ _), S', by rw [dEnts_iSaw], by rw [dEnts_iSaw]⟩, hs, hn, a1⟩
theorem PS.next (P : PS w W t L d q m K R par l a n s true y) : PA w W t L d q m K R par (l ++ 47 :: s.data.toList) y (n + 2) := by
  obtain ⟨st, G, X, S, f1, f2⟩ := P.ex
  have hx := X.next G P.ls f1
  obtain ⟨_, h1, h2, _⟩ := G.step P.ls f1
  rw [f2] at hx h1 h2
  exact ⟨st, G, hx, S, h1, h2⟩
end
end
end Go.Proofs.YtcefigpdodlonaaDoor.St
