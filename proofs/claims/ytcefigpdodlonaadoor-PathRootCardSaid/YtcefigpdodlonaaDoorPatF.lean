/- Trees of directories that grow. No condition but those written in each statement. -/
import Derived.Test.YtcefigpdodlonaaDoorPatE
import Derived.Test.YtcefigpdodlonaaDoorMix
import Derived.Test.YtcefigpdodlonaaDoorWithin
namespace Go.Proofs.YtcefigpdodlonaaDoor.St
open Go.RowKit
set_option linter.unusedVariables false

def updF {α : Type} (f : Int → α) (i : Int) (v : α) : Int → α := fun j => if j = i then v else f j
theorem updF_same {α : Type} (f : Int → α) (i : Int) (v : α) : updF f i v i = v := if_pos rfl
theorem updF_other {α : Type} (f : Int → α) (i j : Int) (v : α) (h : j ≠ i) : updF f i v j = f j := if_neg h

/-- What stands in m inodes. -/
structure G0 (st : VSt) (m : Nat) (K : Int → Bool) (E : Int → List Ent) : Prop where
  used : ∀ j : Nat, 1 ≤ j → j < 16 → usedI ((st.get 9 0).n 0) j = decide (j ≤ m)
  none : ∀ j : Int, (m : Int) < j → j < 16 → (st.get 10 j).n 0 = 0
  dir : ∀ j : Int, 1 ≤ j → j ≤ m → K j = true → DirAt st j (E j)
  file : ∀ j : Int, 1 ≤ j → j ≤ m → K j = false → Holds st j 2 0 0 ByteArray.empty
/-- How directories hang together. -/
structure GP (m : Nat) (K : Int → Bool) (R : Int → List Ent) (par : Int → Int) : Prop where
  root : K 1 = true
  up : ∀ j : Int, 1 ≤ j → j ≤ m → K j = true → 1 ≤ par j ∧ par j ≤ m ∧ K (par j) = true
  kids : ∀ j : Int, 1 ≤ j → j ≤ m → K j = true → ∀ e ∈ R j, isLet e.1 ∧ 1 ≤ e.2 ∧ e.2 ≤ m ∧ (K e.2 = true → par e.2 = j)
theorem GT.parts {st : VSt} {m : Nat} {K : Int → Bool} {R : Int → List Ent} {par : Int → Int} (G : GT st m K R par) : G0 st m K (fun j => dirE j (par j) (R j)) ∧ GP m K R par :=
  ⟨⟨G.used, G.none, fun j a b c => (G.dir j a b c).1, G.file⟩, ⟨G.root, fun j a b c => (G.dir j a b c).2, G.kids⟩⟩
theorem GT.mk' {st : VSt} {m : Nat} {K : Int → Bool} {R : Int → List Ent} {par : Int → Int} (h : 3 ≤ m ∧ m ≤ 12) (G : G0 st m K (fun j => dirE j (par j) (R j))) (P : GP m K R par) : GT st m K R par :=
  ⟨h, G.used, G.none, P.root, fun j a b c => ⟨G.dir j a b c, P.up j a b c⟩, G.file, P.kids⟩

section
variable {st st' : VSt} {m : Nat} {K : Int → Bool} {E E' : Int → List Ent} {R : Int → List Ent} {par : Int → Int}

theorem G0.congr (G : G0 st m K E) (h : ∀ j : Int, 1 ≤ j → j ≤ m → K j = true → E j = E' j) : G0 st m K E' :=
  ⟨G.used, G.none, fun j a b c => by rw [← h j a b c]; exact G.dir j a b c, G.file⟩
theorem G0.set (G : G0 st m K E) {i : Int} {es : List Ent} (h : DirAt st' i es) (ho : ∀ k n, ¬(k = 10 ∧ n = i) → st'.get k n = st.get k n) (h1 : 1 ≤ i) (h2 : i ≤ m) (hk : K i = true) : G0 st' m K (updF E i es) := by
  refine ⟨fun j a b => by rw [ho _ _ (by omega)]; exact G.used j a b, fun j a b => by rw [ho _ _ (by omega)]; exact G.none j a b, fun j a b c => ?_, fun j a b c => ?_⟩
  · by_cases e : j = i
    · subst e; rw [updF_same]; exact h
    · rw [updF_other _ _ _ _ e]; exact dirAt_same (G.dir j a b c) (ho _ _ (by omega))
  · have e : j ≠ i := by rintro rfl; rw [hk] at c; cases c
    unfold Holds; rw [ho _ _ (by omega)]; exact G.file j a b c
theorem G0.free (G : G0 st m K E) (hm : m + 1 < 16) : iFree st = m + 1 := by
  refine free_is _ m hm (fun j a b => ?_) ?_
  · rw [G.used j a (by omega), decide_eq_true b]
  · rw [G.used (m + 1) (by omega) hm, decide_eq_false (by omega)]
theorem G0.alloc (G : G0 st m K E) (hm : m + 1 < 16) (isdir : Bool) : G0 (iAlloc st (if isdir then 1 else 2)) (m + 1) (updF K ((m : Int) + 1) isdir) (updF E ((m : Int) + 1) []) := by
  have hf := G.free hm
  have ho : ∀ k n : Int, ¬(k = 9 ∧ n = 0) → ¬(k = 10 ∧ n = (m : Int) + 1) → (iAlloc st (if isdir then 1 else 2)).get k n = st.get k n := fun k n a b => alloc_get _ _ _ _ a (by rw [hf]; omega)
  refine ⟨fun j a b => ?_, fun j a b => by rw [ho _ _ (by omega) (by omega)]; exact G.none j (by omega) b, fun j a b c => ?_, fun j a b c => ?_⟩
  · have e : ((iAlloc st (if isdir then 1 else 2)).get 9 0).n 0 = markI ((st.get 9 0).n 0) (m + 1) := by
      unfold iAlloc iTake
      rw [hf, if_pos hm, get_put_other _ _ _ _ _ _ (by omega), get_put_same _ _ _ _ place9]
      simp [Val.set]
    rw [e, used_mark _ _ _ (by omega), G.used j a b]
    by_cases q : j ≤ m
    · rw [decide_eq_true q, Bool.true_or, decide_eq_true (by omega : j ≤ m + 1)]
    · by_cases q2 : m + 1 = j
      · rw [decide_eq_false q, decide_eq_true q2, Bool.false_or, decide_eq_true (by omega : j ≤ m + 1)]
      · rw [decide_eq_false q, decide_eq_false q2, Bool.false_or, decide_eq_false (by omega : ¬ j ≤ m + 1)]
  · by_cases e : j = (m : Int) + 1
    · subst e
      rw [updF_same] at c ⊢
      subst c
      have := dirAt_new st (by omega) (by omega)
      rw [hf] at this
      exact this
    · rw [updF_other _ _ _ _ e] at c ⊢
      exact dirAt_same (G.dir j a (by omega) c) (ho _ _ (by omega) (by omega))
  · by_cases e : j = (m : Int) + 1
    · subst e
      rw [updF_same] at c
      subst c
      have := alloc_same st 2 (by omega) (by omega)
      rw [hf] at this
      exact this
    · rw [updF_other _ _ _ _ e] at c
      unfold Holds; rw [ho _ _ (by omega) (by omega)]; exact G.file j a (by omega) c

/-! ### what may be added -/
theorem fnd_place {es : List Ent} {s : ByteArray} (h : fndB es s = false) : placeE es s < 0 := by
  unfold fndB at h; simpa using h
theorem add_more {es : List Ent} {s : ByteArray} {n : Int} (hall : ∀ e ∈ es, thereE e = true) (hr : rightL s.data.toList = true) (hn : fndB es s = false) (h1 : 1 ≤ n) (h2 : n < 16) (hl : es.length < 8) : addB es s n = true ∧ addE es s n = es ++ [(s, n)] := by
  have hf : findI (fun e => !thereE e) es = -1 := findI_miss (fun t ht => by rw [hall _ (List.getElem_mem ht)]; rfl)
  have hb : addB es s n = true := by
    unfold addB
    rw [hr, there_mk h1 h2, decide_eq_true (fnd_place hn), hf, decide_eq_true hl]; rfl
  refine ⟨hb, ?_⟩
  unfold addE
  rw [if_pos hb, hf, if_pos (by decide)]
theorem dirE_there {i p : Int} {R : List Ent} (h1 : 1 ≤ i) (h2 : i < 16) (h3 : 1 ≤ p) (h4 : p < 16) (h : ∀ e ∈ R, 1 ≤ e.2 ∧ e.2 < 16) : ∀ e ∈ dirE i p R, thereE e = true := by
  intro e he
  unfold dirE at he
  rcases List.mem_cons.1 he with rfl | he
  · exact there_mk h1 h2
  · rcases List.mem_cons.1 he with rfl | he
    · exact there_mk h3 h4
    · exact there_mk (h e he).1 (h e he).2
theorem dirE_app (i p : Int) (R : List Ent) (e : Ent) : dirE i p R ++ [e] = dirE i p (R ++ [e]) := rfl
theorem add_dot {n : Int} (h1 : 1 ≤ n) (h2 : n < 16) : addB [] dotB n = true ∧ addE [] dotB n = [(dotB, n)] :=
  add_more (fun e he => by simp at he) dot_right.1 (fnd_none (fun e he => by simp at he)) h1 h2 (by decide)
theorem add_dots {n p : Int} (g1 : 1 ≤ n) (g2 : n < 16) (h1 : 1 ≤ p) (h2 : p < 16) : addB [(dotB, n)] dotsB p = true ∧ addE [(dotB, n)] dotsB p = dirE n p [] :=
  add_more (fun e he => by simp at he; subst he; exact there_mk g1 g2) dot_right.2.1 (fnd_none (fun e he => by
    simp at he; subst he
    cases hb : bearsE dotsB (dotB, n) with
    | false => rfl
    | true => exact absurd (bears_iff.1 hb).2.symm dot_right.2.2)) h1 h2 (by simp)

/-- A new inode, with a letter's name in a directory: how all hangs together then. -/
theorem GP.file (P : GP m K R par) {i : Int} (hi : 1 ≤ i ∧ i ≤ m) {s : ByteArray} (hs : isLet s) : GP (m + 1) (updF K ((m : Int) + 1) false) (updF R i (R i ++ [(s, (m : Int) + 1)])) par := by
  refine ⟨?_, fun j a b c => ?_, fun j a b c e he => ?_⟩
  · rw [updF_other _ _ _ _ (by omega)]; exact P.root
  · by_cases e : j = (m : Int) + 1
    · subst e; rw [updF_same] at c; cases c
    · rw [updF_other _ _ _ _ e] at c
      obtain ⟨u1, u2, u3⟩ := P.up j a (by omega) c
      exact ⟨u1, by omega, by rw [updF_other _ _ _ _ (by omega)]; exact u3⟩
  · by_cases ej : j = (m : Int) + 1
    · subst ej; rw [updF_same] at c; cases c
    · rw [updF_other _ _ _ _ ej] at c
      have old : ∀ e ∈ R j, isLet e.1 ∧ 1 ≤ e.2 ∧ e.2 ≤ ((m + 1 : Nat) : Int) ∧ (updF K ((m : Int) + 1) false e.2 = true → par e.2 = j) := by
        intro e he
        obtain ⟨k1, k2, k3, k4⟩ := P.kids j a (by omega) c e he
        exact ⟨k1, k2, by omega, fun q => by rw [updF_other _ _ _ _ (by omega)] at q; exact k4 q⟩
      by_cases ei : j = i
      · subst ei
        rw [updF_same, List.mem_append, List.mem_singleton] at he
        rcases he with he | rfl
        · exact old e he
        · exact ⟨hs, by simp; omega, by simp, fun q => by rw [updF_same] at q; cases q⟩
      · rw [updF_other _ _ _ _ ei] at he
        exact old e he
theorem GP.dirs (P : GP m K R par) {i : Int} (hi : 1 ≤ i ∧ i ≤ m) (hk : K i = true) {s : ByteArray} (hs : isLet s) : GP (m + 1) (updF K ((m : Int) + 1) true) (updF (updF R i (R i ++ [(s, (m : Int) + 1)])) ((m : Int) + 1) []) (updF par ((m : Int) + 1) i) := by
  refine ⟨?_, fun j a b c => ?_, fun j a b c e he => ?_⟩
  · rw [updF_other _ _ _ _ (by omega)]; exact P.root
  · by_cases e : j = (m : Int) + 1
    · subst e
      rw [updF_same]
      exact ⟨hi.1, by omega, by rw [updF_other _ _ _ _ (by omega)]; exact hk⟩
    · rw [updF_other _ _ _ _ e] at c ⊢
      obtain ⟨u1, u2, u3⟩ := P.up j a (by omega) c
      exact ⟨u1, by omega, by rw [updF_other _ _ _ _ (by omega)]; exact u3⟩
  · by_cases ej : j = (m : Int) + 1
    · subst ej; rw [updF_same] at he; simp at he
    · rw [updF_other _ _ _ _ ej] at c he
      have old : ∀ e ∈ R j, isLet e.1 ∧ 1 ≤ e.2 ∧ e.2 ≤ ((m + 1 : Nat) : Int) ∧ (updF K ((m : Int) + 1) true e.2 = true → updF par ((m : Int) + 1) i e.2 = j) := by
        intro e he
        obtain ⟨k1, k2, k3, k4⟩ := P.kids j a (by omega) c e he
        exact ⟨k1, k2, by omega, fun q => by rw [updF_other _ _ _ _ (by omega)] at q ⊢; exact k4 q⟩
      by_cases ei : j = i
      · subst ei
        rw [updF_same, List.mem_append, List.mem_singleton] at he
        rcases he with he | rfl
        · exact old e he
        · exact ⟨hs, by simp; omega, by simp, fun q => updF_same _ _ _⟩
      · rw [updF_other _ _ _ _ ei] at he
        exact old e he
end

section
variable {w W : World} {t : Nat} {L : Lay} {d q : Nat} {st : VSt} {m : Nat} {K : Int → Bool} {E : Int → List Ent} {R : Int → List Ent} {par : Int → Int}

theorem g_find (hM : Mx w) (S : Std w t L d q st W) (G : GT st m K R par) (i : Int) (s : ByteArray) (hs : s.size ≤ 1048576) :
    Calls Tryd.prog 11 #[.pointer (some ⟨L.v, 0, none⟩), .int .i64 i, .string s] W fun e W' => e = .returned (.tuple #[.int .i64 (fndN (dEnts st i) s), .bool (fndB (dEnts st i) s)]) ∧ ∃ st', GT st' m K R par ∧ (∀ j, dEnts st' j = dEnts st j) ∧ Std w t L d q st' W' :=
  (s_find hM S i s hs (G.sm i)).mono fun e W' ⟨a, b, _⟩ => ⟨a, _, G.same (fun k n => get_iSaw _ _ _ _), fun j => dEnts_iSaw _ _ _, b⟩
theorem g_is (S : Std w t L d q st W) (G : GT st m K R par) (i : Int) :
    Calls Tryd.prog 12 #[.pointer (some ⟨L.v, 0, none⟩), .int .i64 i] W fun e W' => e = .returned (.bool (isD m K i)) ∧ ∃ st', GT st' m K R par ∧ (∀ j, dEnts st' j = dEnts st j) ∧ Std w t L d q st' W' := by
  have h := s_isdir S i
  rw [G.type] at h
  exact h.mono fun e W' ⟨a, b, _⟩ => ⟨a, _, G.same (fun k n => get_iSaw _ _ _ _), fun j => dEnts_iSaw _ _ _, b⟩
theorem g_has (S : Std w t L d q st W) (G : GT st m K R par) (i : Int) :
    Calls Tryd.prog 13 #[.pointer (some ⟨L.v, 0, none⟩), .int .i64 i] W fun e W' => e = .returned (.bool (decide (1 ≤ i) && decide (i ≤ (m : Int)))) ∧ ∃ st', GT st' m K R par ∧ (∀ j, dEnts st' j = dEnts st j) ∧ Std w t L d q st' W' := by
  have h := s_is S i
  rw [G.has] at h
  exact h.mono fun e W' ⟨a, b, _⟩ => ⟨a, _, G.same (fun k n => get_iSaw _ _ _ _), fun j => dEnts_iSaw _ _ _, b⟩
theorem g_names (hM : Mx w) (S : Std w t L d q st W) (G : GT st m K R par) {i : Int} (hd : isD m K i = true) :
    Calls Tryd.prog 20 #[.pointer (some ⟨L.v, 0, none⟩), .int .i64 i] W fun e W' => ∃ a c, e = .returned (.slice a ((R i).length + 2) c) ∧ ∃ st', GT st' m K R par ∧ (∀ j, dEnts st' j = dEnts st j) ∧ Std w t L d q st' W' := by
  have h := s_names hM S i (G.sm i)
  obtain ⟨i1, i2, i3⟩ := isD_in hd
  have hle := G.le
  have hall : (namesE (dEnts st i)).length = (R i).length + 2 := by
    rw [G.ents, if_pos hd]
    obtain ⟨_, p1, p2, _⟩ := G.dir i i1 i2 i3
    have := dirE_there (R := R i) i1 (by omega) p1 (by omega) (fun e he => by
      obtain ⟨_, k1, k2, _⟩ := G.kids i i1 i2 i3 e he
      exact ⟨k1, by omega⟩)
    unfold namesE
    rw [List.length_map, List.filter_eq_self.2 this]
    rfl
  refine h.mono fun e W' ⟨v, a, o, b, _⟩ => ?_
  obtain ⟨x, c, e', _⟩ := o.tr
  rw [hall] at e'
  exact ⟨x, c, by rw [a, e'], _, G.same (fun k n => get_iSaw _ _ _ _), fun j => dEnts_iSaw _ _ _, b⟩
theorem g0_alloc (S : Std w t L d q st W) (G : G0 st m K E) (hm : m + 1 < 16) (isdir : Bool) (x : Int) (hx : x = if isdir then 1 else 2) :
    Calls Tryd.prog 15 #[.pointer (some ⟨L.v, 0, none⟩), .int .i64 x] W fun e W' => e = .returned (.tuple #[.int .i64 ((m : Int) + 1), .bool true]) ∧ ∃ st', G0 st' (m + 1) (updF K ((m : Int) + 1) isdir) (updF E ((m : Int) + 1) []) ∧ Std w t L d q st' W' := by
  subst hx
  have hf := G.free hm
  have h := s_alloc S (if isdir then 1 else 2)
  rw [show iGot st = (m : Int) + 1 by unfold iGot; rw [hf, if_pos hm]; omega, hf, decide_eq_true hm] at h
  exact h.mono fun e W' ⟨a, b, _⟩ => ⟨a, _, G.alloc hm isdir, b⟩
theorem g0_add (hM : Mx w) (S : Std w t L d q st W) (G : G0 st m K E) {i : Int} (h1 : 1 ≤ i) (h2 : i ≤ m) (hm : m < 16) (hk : K i = true) (s : ByteArray) (n : Int) (hs : s.size ≤ 1048576) :
    Calls Tryd.prog 16 #[.pointer (some ⟨L.v, 0, none⟩), .int .i64 i, .string s, .int .i64 n] W fun e W' => e = .returned (.bool (addB (E i) s n)) ∧ ∃ st', G0 st' m K (updF E i (addE (E i) s n)) ∧ Std w t L d q st' W' :=
  (d_add hM S (G.dir i h1 h2 hk) h1 (by omega) s n hs).mono fun e W' ⟨a, st', ⟨b, c⟩, S', _⟩ => ⟨a, st', G.set b c h1 h2 hk, S'⟩
end
end Go.Proofs.YtcefigpdodlonaaDoor.St
