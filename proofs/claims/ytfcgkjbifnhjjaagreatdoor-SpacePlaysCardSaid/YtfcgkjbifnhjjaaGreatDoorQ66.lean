/- What the space laws hold of a view: who is there, the pool, pages and memory; the contracts of space in that form. cloisterbook.Same of numbers where they are the same, and chapter 16's runs. Where the library's table holds what its initialiser lays. No condition but those written in each statement. -/
import Derived.Test.YtfcgkjbifnhjjaaGreatDoorQ63
import Derived.Test.YtfcgkjbifnhjjaaGreatDoorQ62
import Derived.Test.YtfcgkjbifnhjjaaGreatDoorSpEQ
namespace Go.Proofs.YtfcgkjbifnhjjaaGreatDoor.St
open Go.RowKit
set_option linter.unusedVariables false

/-- The pool's two numbers; each process's pages and memory. -/
structure SpS where
  f : Int
  wy : Int
  X : Nat → ByteArray
  M : Nat → ByteArray
structure SR (st : VSt) (a : SpS) : Prop where
  tab : ∀ p, p < 8 → usedI ((st.get 3 0).n 0) p = decide (p < 2)
  f : (st.get 2 0).n 0 = a.f
  wy : (st.get 2 0).n 1 = a.wy
  x : ∀ p : Nat, p < 2 → (st.get 4 p).n 0 ≠ 0 ∧ (st.get 4 p).s = a.X p
  m : ∀ p : Nat, p < 2 → (st.get 12 p).s = a.M p
theorem SR.congr {st st' : VSt} {a : SpS} (h : SR st a) (e : ∀ k j, st'.get k j = st.get k j) : SR st' a :=
  ⟨by rw [e]; exact h.tab, by rw [e]; exact h.f, by rw [e]; exact h.wy, fun p hp => by rw [e]; exact h.x p hp, fun p hp => by rw [e]; exact h.m p hp⟩
theorem SR.there {st : VSt} {a : SpS} (h : SR st a) (p : Nat) (hp : p < 2) : (qState st (p : Int) == 0) = false := by
  have h8 : ¬ ((p : Int) < 0 ∨ 8 ≤ (p : Int)) := by omega
  have hu := h.tab p (by omega)
  rw [decide_eq_true hp] at hu
  unfold qState qVal qUsed
  rw [if_neg h8, Int.toNat_natCast, hu, if_pos rfl]
  exact beq_eq_false_iff_ne.2 (h.x p hp).1
theorem SR.gone {st : VSt} {a : SpS} (h : SR st a) (p : Int) (hp : p < 0 ∨ 2 ≤ p) : qState st p = 0 := by
  unfold qState qVal qUsed
  by_cases h8 : p < 0 ∨ 8 ≤ p
  · rw [if_pos h8]; rfl
  · have hu := h.tab p.toNat (by omega)
    rw [decide_eq_false (by omega)] at hu
    rw [if_neg h8, hu]; rfl
def updF (F : Nat → ByteArray) (p : Nat) (s : ByteArray) : Nat → ByteArray := fun q => if q = p then s else F q
theorem updF_same (F : Nat → ByteArray) (p : Nat) (s : ByteArray) : updF F p s p = s := if_pos rfl
theorem updF_other (F : Nat → ByteArray) (p q : Nat) (s : ByteArray) (h : q ≠ p) : updF F p s q = F q := if_neg h
theorem SR.puts {st st' : VSt} {a : SpS} (h : SR st a) (e : ∀ k j, st'.get k j = st.get k j) (p : Nat) (hp : p < 2) (x' m' y' : Val) (hx : x'.n 0 ≠ 0) :
    SR (((st'.put 4 p x').put 12 p m').put 2 0 y') ⟨y'.n 0, y'.n 1, updF a.X p x'.s, updF a.M p m'.s⟩ := by
  have p12 : 0 ≤ placeI 12 (p : Int) := by rcases (by omega : p = 0 ∨ p = 1) with rfl | rfl <;> decide
  have p4 : 0 ≤ placeI 4 (p : Int) := by rcases (by omega : p = 0 ∨ p = 1) with rfl | rfl <;> decide
  refine ⟨fun q hq => ?_, ?_, ?_, fun q hq => ?_, fun q hq => ?_⟩
  · rw [get_put_other _ _ _ _ _ _ (by omega), get_put_other _ _ _ _ _ _ (by omega), get_put_other _ _ _ _ _ _ (by omega), e]
    exact h.tab q hq
  · rw [get_put_same _ _ _ _ (by decide)]
  · rw [get_put_same _ _ _ _ (by decide)]
  · rw [get_put_other _ _ _ _ _ _ (by omega), get_put_other _ _ _ _ _ _ (by omega)]
    by_cases eq : q = p
    · subst eq
      rw [get_put_same _ _ _ _ p4]
      exact ⟨hx, (updF_same _ _ _).symm⟩
    · rw [get_put_other _ _ _ _ _ _ (by omega), e]
      exact ⟨(h.x q hq).1, by rw [(h.x q hq).2]; exact (updF_other _ _ _ _ eq).symm⟩
  · rw [get_put_other _ _ _ _ _ _ (by omega)]
    by_cases eq : q = p
    · subst eq
      rw [get_put_same _ _ _ _ p12]
      exact (updF_same _ _ _).symm
    · rw [get_put_other _ _ _ _ _ _ (by omega), get_put_other _ _ _ _ _ _ (by omega), e]
      rw [h.m q hq]
      exact (updF_other _ _ _ _ eq).symm

/-! ### What the calls answer, and what is behind them -/
def gOk (a : SpS) (p n : Int) : Bool := decide (0 ≤ p ∧ p < 2 ∧ 0 ≤ n ∧ n ≤ 6 - ((a.X p.toNat).size : Int) ∧ n ≤ ones64 (IntKind.u64.wrap a.f))
def gA (a : SpS) (p n : Int) : SpS := if gOk a p n = true then ⟨gN a.f n.toNat, a.wy, updF a.X p.toNat (gS a.f (a.X p.toNat) n.toNat), updF a.M p.toNat (a.M p.toNat ++ noughts (n * 16).toNat)⟩ else a
def hOk (a : SpS) (p n : Int) : Bool := decide (0 ≤ p ∧ p < 2 ∧ 0 ≤ n ∧ n ≤ ((a.X p.toNat).size : Int))
def hL (a : SpS) (p n : Int) : List Int := pgL (tailS (a.X p.toNat) n).data.toList
def hA (a : SpS) (p n : Int) : SpS := if hOk a p n = true then ⟨a.f, shY a.wy (hL a p n), updF a.X p.toNat (headS (a.X p.toNat) (((a.X p.toNat).size : Int) - n)), updF a.M p.toNat (headS (a.M p.toNat) (min ((a.M p.toNat).size : Int) ((((a.X p.toNat).size : Int) - n) * 16)))⟩ else a
def pgA (a : SpS) (p : Int) : List Int := if 0 ≤ p ∧ p < 2 then pgL (a.X p.toNat).data.toList else []
def bk2 (y : Int × Int) (g : Int) : Int × Int := if g < 0 ∨ 64 ≤ g then y else if usedI y.2 g.toNat = false then y else (markI y.1 g.toNat, unmarkN y.2 g.toNat)
def bkA (a : SpS) (l : List Int) : SpS := { a with f := (l.foldl bk2 (a.f, a.wy)).1, wy := (l.foldl bk2 (a.f, a.wy)).2 }
theorem bk_two (l : List Int) : ∀ y : Val, ((bkV y l).n 0, (bkV y l).n 1) = l.foldl bk2 (y.n 0, y.n 1) := by
  induction l with
  | nil => intro y; rfl
  | cons g l ih =>
    intro y
    show ((bkV (bk1 y g) l).n 0, (bkV (bk1 y g) l).n 1) = l.foldl bk2 (bk2 (y.n 0, y.n 1) g)
    rw [ih]
    congr 1
    unfold bk1 bk2
    split
    · rfl
    · show _ = if usedI (y.n 1) g.toNat = false then _ else _
      split
      · rfl
      · rfl
theorem gN_ones (f : Int) (n : Nat) (h : (n : Int) ≤ ones64 (IntKind.u64.wrap f)) : ∀ i, i ≤ n → ones64 (IntKind.u64.wrap (gN f i)) = ones64 (IntKind.u64.wrap f) - i
  | 0, _ => by simp [gN]
  | i + 1, hi => by
    have ih := gN_ones f n h i (by omega)
    obtain ⟨u, hu, e, hb, _⟩ := tz_used (gN f i) (some_free _ (by omega))
    show ones64 (IntKind.u64.wrap (unmarkN (gN f i) (tz64 (IntKind.u64.wrap (gN f i))).toNat)) = _
    rw [e, Int.toNat_natCast, ones_unmark _ u hu hb, ih]
    omega
theorem gN_some (f : Int) (n : Nat) (h : (n : Int) ≤ ones64 (IntKind.u64.wrap f)) (i : Nat) (hi : i < n) : (IntKind.u64.wrap (gN f i) == 0) = false :=
  some_free _ (by rw [gN_ones f n h i (by omega)]; omega)

section
variable {w W : World} {t : Nat} {L : Lay} {d q : Nat} {st : VSt} {a : SpS}
theorem s_grow (S : Std w t L d q st W) (R : SR st a) (hB : Bx w) (hX : ∀ p, p < 2 → (a.X p).size ≤ 1000) (hM : ∀ p, p < 2 → (a.M p).size ≤ 1000) (p n : Int) (hn : n ≤ 1000) :
    Calls Tryz.prog 6 #[.pointer (some ⟨L.v, 0, none⟩), .int .i64 p, .int .i64 n] W fun e W' => e = .returned (.bool (gOk a p n)) ∧ ∃ st', SR st' (gA a p n) ∧ Std w t L d q st' W' ∧ Maps L W W' := by
  have hBW := hB.below (Nat.le_refl _) S.b
  by_cases hp : 0 ≤ p ∧ p < 2
  · by_cases h0 : 0 ≤ n
    · obtain ⟨P, rfl⟩ := Int.eq_ofNat_of_zero_le hp.1
      obtain ⟨N, rfl⟩ := Int.eq_ofNat_of_zero_le h0
      have hP : P < 2 := by omega
      have ex := (R.x P hP).2
      have em := R.m P hP
      have ef := R.f
      refine (sgrow_any L st P N (R.there P hP) _ _ _ rfl rfl rfl (by rw [ex]; have := hX P hP; omega) (by rw [em]; have := hM P hP; omega) (by omega) (by rw [ef]; exact fun q i hi => gN_some a.f N q i hi) W S.v hBW).mono fun e W' ⟨h1, h2, h3⟩ => ?_
      have hok : grOk st (P : Int) (N : Int) = gOk a (P : Int) (N : Int) := by
        unfold grOk gOk
        rw [ex, ef, Int.toNat_natCast, Bool.eq_iff_iff]
        simp only [Bool.and_eq_true, Bool.not_eq_true', decide_eq_false_iff_not, decide_eq_true_eq]
        omega
      refine ⟨by rw [h1, hok], _, ?_, S.step h2 h3, h3⟩
      unfold gA grEnd
      by_cases hg : gOk a (P : Int) (N : Int) = true
      · have hg' := hg
        unfold gOk at hg'
        have hg' := of_decide_eq_true hg'
        rw [Int.toNat_natCast] at hg'
        rw [if_pos hg, ex, ef, if_neg (by omega), if_neg (by omega)]
        have := SR.puts (st' := ((saw2 st P).saw 2 0).saw 2 0) R (fun k j => by rw [get_saw, get_saw, get_saw2]) P hP (grX st P N) (grM st P N) (grY st N) (R.x P hP).1
        unfold grX grM grY at this
        rw [set_n_same] at this
        rw [show (((st.get 2 0).set 0 (gN ((st.get 2 0).n 0) (N : Int).toNat)).n 1) = (st.get 2 0).n 1 from rfl, ef, R.wy] at this
        simp only [Val.text] at this
        rw [ex, em] at this
        unfold grX grM grY
        rw [ef, ex, em]
        simp only [Val.text]
        exact this
      · rw [if_neg hg]
        unfold gOk at hg
        have hg' := of_decide_eq_false (by simpa using hg : decide (0 ≤ (P : Int) ∧ (P : Int) < 2 ∧ 0 ≤ (N : Int) ∧ (N : Int) ≤ 6 - ((a.X (P : Int).toNat).size : Int) ∧ (N : Int) ≤ ones64 (IntKind.u64.wrap a.f)) = false)
        rw [Int.toNat_natCast] at hg'
        rw [ex, ef]
        by_cases h6 : 6 - ((a.X P).size : Int) < N
        · rw [if_pos h6]; exact R.congr fun k j => get_saw2 _ _ _ _
        · rw [if_neg h6, if_pos (by omega)]; exact R.congr fun k j => by rw [get_saw, get_saw2]
    · have hno : gOk a p n = false := by unfold gOk; exact decide_eq_false (by omega)
      obtain ⟨P, rfl⟩ := Int.eq_ofNat_of_zero_le hp.1
      refine (sgrow_no L st P n (Or.inr ⟨beq_eq_false_iff_ne.1 (R.there P (by omega)), by omega⟩) W S.v).mono fun e W' ⟨h1, h2, h3⟩ => ⟨by rw [h1, hno], _, ?_, S.step h2 (h3.mono fun _ _ => Or.inl), h3.mono fun _ _ => Or.inl⟩
      unfold gA
      rw [hno]
      exact R.congr fun k j => get_qSaw _ _ _ _
  · have hno : gOk a p n = false := by unfold gOk; exact decide_eq_false (by omega)
    refine (sgrow_no L st p n (Or.inl (R.gone p (by omega))) W S.v).mono fun e W' ⟨h1, h2, h3⟩ => ⟨by rw [h1, hno], _, ?_, S.step h2 (h3.mono fun _ _ => Or.inl), h3.mono fun _ _ => Or.inl⟩
    unfold gA
    rw [hno]
    exact R.congr fun k j => get_qSaw _ _ _ _
theorem s_shrink (S : Std w t L d q st W) (R : SR st a) (hX : ∀ p, p < 2 → (a.X p).size ≤ 1000) (hM : ∀ p, p < 2 → (a.M p).size ≤ 1000) (p n : Int) (hn : n ≤ 9223372036854775807) :
    Calls Tryz.prog 8 #[.pointer (some ⟨L.v, 0, none⟩), .int .i64 p, .int .i64 n] W fun e W' => ∃ v, e = .returned (.tuple #[v, .bool (hOk a p n)]) ∧ ShRes (hOk a p n) W.heap.size W' v (hL a p n) ∧ ∃ st', SR st' (hA a p n) ∧ Std w t L d q st' W' ∧ Maps L W W' := by
  by_cases hp : 0 ≤ p ∧ p < 2
  · by_cases h0 : 0 ≤ n
    · obtain ⟨P, rfl⟩ := Int.eq_ofNat_of_zero_le hp.1
      have hP : P < 2 := by omega
      have ex := (R.x P hP).2
      have em := R.m P hP
      refine (sshrink_any L st P n (R.there P hP) _ _ _ rfl rfl rfl (by rw [ex]; have := hX P hP; omega) (by rw [em]; have := hM P hP; omega) h0 hn W S.v).mono fun e W' ⟨v, h1, h4, h2, h3⟩ => ?_
      have hok : shOk st (P : Int) n = hOk a (P : Int) n := by
        unfold shOk hOk
        rw [ex, Int.toNat_natCast, Bool.eq_iff_iff]
        simp only [Bool.not_eq_true', decide_eq_false_iff_not, decide_eq_true_eq]
        omega
      have hl : shL st (P : Int) n = hL a (P : Int) n := by unfold shL hL; rw [ex, Int.toNat_natCast]
      refine ⟨v, by rw [h1, hok], by rw [← hok, ← hl]; exact h4, _, ?_, S.step h2 h3, h3⟩
      unfold hA shEnd
      by_cases hg : hOk a (P : Int) n = true
      · have hg' := hg
        unfold hOk at hg'
        have hg' := of_decide_eq_true hg'
        rw [Int.toNat_natCast] at hg'
        rw [if_pos hg, ex, if_neg (by omega)]
        have := SR.puts (st' := (saw2 st P).saw 2 0) R (fun k j => by rw [get_saw, get_saw2]) P hP (shX st P n) (shM st P n) ((st.get 2 0).set 1 (shY ((st.get 2 0).n 1) (shL st P n))) (R.x P hP).1
        rw [set_n_same, R.wy, hl] at this
        rw [show (((st.get 2 0).set 1 (shY a.wy (hL a P n))).n 0) = (st.get 2 0).n 0 from rfl, R.f] at this
        rw [R.wy, hl]
        unfold shX shM at this ⊢
        simp only [Val.text] at this ⊢
        rw [ex, em] at this
        rw [ex, em]
        exact this
      · rw [if_neg hg]
        unfold hOk at hg
        have hg' := of_decide_eq_false (by simpa using hg : decide (0 ≤ (P : Int) ∧ (P : Int) < 2 ∧ 0 ≤ n ∧ n ≤ ((a.X (P : Int).toNat).size : Int)) = false)
        rw [Int.toNat_natCast] at hg'
        rw [ex, if_pos (by omega)]
        exact R.congr fun k j => get_saw2 _ _ _ _
    · have hno : hOk a p n = false := by unfold hOk; exact decide_eq_false (by omega)
      obtain ⟨P, rfl⟩ := Int.eq_ofNat_of_zero_le hp.1
      refine (sshrink_no L st P n (Or.inr ⟨beq_eq_false_iff_ne.1 (R.there P (by omega)), by omega⟩) W S.v).mono fun e W' ⟨h1, h2, h3⟩ => ⟨.slice none 0 0, by rw [h1, hno], ⟨fun q => absurd (hno.symm.trans q) (by decide), fun _ => rfl⟩, _, ?_, S.step h2 (h3.mono fun _ _ => Or.inl), h3.mono fun _ _ => Or.inl⟩
      unfold hA
      rw [hno]
      exact R.congr fun k j => get_qSaw _ _ _ _
  · have hno : hOk a p n = false := by unfold hOk; exact decide_eq_false (by omega)
    refine (sshrink_no L st p n (Or.inl (R.gone p (by omega))) W S.v).mono fun e W' ⟨h1, h2, h3⟩ => ⟨.slice none 0 0, by rw [h1, hno], ⟨fun q => absurd (hno.symm.trans q) (by decide), fun _ => rfl⟩, _, ?_, S.step h2 (h3.mono fun _ _ => Or.inl), h3.mono fun _ _ => Or.inl⟩
    unfold hA
    rw [hno]
    exact R.congr fun k j => get_qSaw _ _ _ _
theorem s_free (S : Std w t L d q st W) (R : SR st a) :
    Calls Tryz.prog 31 #[.pointer (some ⟨L.v, 0, none⟩)] W fun e W' => e = .returned (.int .i64 (ones64 (IntKind.u64.wrap a.f))) ∧ ∃ st', SR st' a ∧ Std w t L d q st' W' ∧ Maps L W W' :=
  (sfree_any L st W S.v).mono fun e W' ⟨h1, h2, h3⟩ => ⟨by rw [h1, R.f], _, R.congr fun k j => get_saw _ _ _ _ _, S.step h2 (h3.mono fun _ _ => Or.inl), h3.mono fun _ _ => Or.inl⟩
theorem s_pages (S : Std w t L d q st W) (R : SR st a) (hX : ∀ p, p < 2 → (a.X p).size ≤ 1000) (p : Int) (hp : 0 ≤ p ∧ p < 2) :
    Calls Tryz.prog 53 #[.pointer (some ⟨L.v, 0, none⟩), .int .i64 p] W fun e W' => ∃ v, e = .returned v ∧ IL W.heap.size W' v (pgA a p) ∧ ∃ st', SR st' a ∧ Std w t L d q st' W' ∧ Maps L W W' := by
  obtain ⟨P, rfl⟩ := Int.eq_ofNat_of_zero_le hp.1
  have hP : P < 2 := by omega
  have ex := (R.x P hP).2
  refine (spages_any L st P (by rw [ex]; exact hX P hP) W S.v).mono fun e W' ⟨v, h1, h2, ⟨st', h3, h4⟩, h5⟩ => ?_
  refine ⟨v, h1, ?_, st', R.congr h3, S.step h4 (h5.mono fun _ _ => Or.inl), h5.mono fun _ _ => Or.inl⟩
  have e2 : sPg st (P : Int) = pgA a P := by
    unfold sPg pgA
    rw [if_neg (beq_eq_false_iff_ne.1 (R.there P hP)), if_pos hp, ex, Int.toNat_natCast]
  rw [← e2]; exact h2
theorem s_back (S : Std w t L d q st W) (R : SR st a) (x : Option Addr) (cap : Nat) (zs : List Int) (hz : zs.length ≤ 1000) (hR : NR W x zs) :
    Calls Tryz.prog 11 #[.pointer (some ⟨L.v, 0, none⟩), .slice x zs.length cap] W fun e W' => e = .returned (.tuple #[]) ∧ ∃ st', SR st' (bkA a zs) ∧ Std w t L d q st' W' ∧ Maps L W W' := by
  refine (sback_any L st x cap zs hz W S.v hR).mono fun e W' ⟨h1, h2, h3⟩ => ⟨h1, _, ?_, S.step h2 h3, h3⟩
  have e2 := bk_two zs (st.get 2 0)
  rw [R.f, R.wy] at e2
  have e3 : (bkV (st.get 2 0) zs).n 0 = (bkA a zs).f := by unfold bkA; rw [← e2]
  have e4 : (bkV (st.get 2 0) zs).n 1 = (bkA a zs).wy := by unfold bkA; rw [← e2]
  refine ⟨fun p hp => ?_, ?_, ?_, fun p hp => ?_, fun p hp => ?_⟩
  · rw [get_put_other _ _ _ _ _ _ (by omega), get_saw]; exact R.tab p hp
  · rw [get_put_same _ _ _ _ (by decide)]; exact e3
  · rw [get_put_same _ _ _ _ (by decide)]; exact e4
  · rw [get_put_other _ _ _ _ _ _ (by omega), get_saw]; exact R.x p hp
  · rw [get_put_other _ _ _ _ _ _ (by omega), get_saw]; exact R.m p hp
end
/-- The laws' beginning. -/
def pS (n : Int) : SpS := ⟨n, 0, fun _ => ByteArray.empty, fun _ => ByteArray.empty⟩
theorem pl2_tab (n : Int) : ((pl2 n).get 3 0).n 0 = 3 := by kernel_rfl
theorem pl2_pool (n : Int) : (pl2 n).get 2 0 = poolV n := by kernel_rfl
theorem pl2_x0 (n : Int) : ((pl2 n).get 4 0).n 0 = 1 ∧ ((pl2 n).get 4 0).s = ByteArray.empty := by constructor <;> kernel_rfl
theorem pl2_x1 (n : Int) : ((pl2 n).get 4 1).n 0 = 1 ∧ ((pl2 n).get 4 1).s = ByteArray.empty := by constructor <;> kernel_rfl
theorem pl2_m0 (n : Int) : ((pl2 n).get 12 0).s = ByteArray.empty := by kernel_rfl
theorem pl2_m1 (n : Int) : ((pl2 n).get 12 1).s = ByteArray.empty := by kernel_rfl
theorem pl2_SR (n : Int) : SR (pl2 n) (pS n) := by
  refine ⟨fun p hp => ?_, ?_, ?_, fun p hp => ?_, fun p hp => ?_⟩
  · rw [pl2_tab]
    have : ∀ p, p < 8 → usedI 3 p = decide (p < 2) := by decide +kernel
    exact this p hp
  · rw [pl2_pool]; rfl
  · rw [pl2_pool]; rfl
  · rcases (by omega : p = 0 ∨ p = 1) with rfl | rfl
    · exact ⟨by show ((pl2 n).get 4 0).n 0 ≠ 0; rw [(pl2_x0 n).1]; decide, (pl2_x0 n).2⟩
    · exact ⟨by show ((pl2 n).get 4 1).n 0 ≠ 0; rw [(pl2_x1 n).1]; decide, (pl2_x1 n).2⟩
  · rcases (by omega : p = 0 ∨ p = 1) with rfl | rfl
    · exact pl2_m0 n
    · exact pl2_m1 n
end Go.Proofs.YtfcgkjbifnhjjaaGreatDoor.St

namespace Go.Proofs.YtfcgkjbifnhjjaaGreatDoor.St
open Go.RowKit
set_option linter.unusedVariables false

theorem NR.maps {W W' : World} {L : Lay} {st : VSt} {a : Option Addr} {zs : List Int} (h : NR W a zs) (hV : ViewAt W L st) (hm : Maps L W W') : NR W' a zs := fun i hi => by
  obtain ⟨x, e, c⟩ := h i hi
  have hlt := World.block_lt_of_cell? _ _ c
  obtain ⟨_, _, hr, _⟩ := hV.cr
  obtain ⟨_, _, hmm, _⟩ := hV.cm
  have hne : ¬((x.add i).block = L.r ∨ (x.add i).block = L.m) := by
    rintro (q | q)
    · unfold World.cell? at c; rw [q, hr] at c; simp at c
    · unfold World.cell? at c; rw [q, hmm] at c; simp at c
  refine ⟨x, e, ?_⟩
  rw [World.cell?_of_block (hm.block (x.add i).block (by simpa using hlt) hne)]
  exact c
theorem NR.drewN {W : World} {a : Option Addr} {zs : List Int} (h : NR W a zs) (n : Nat) : NR (W.drewN n) a zs := h.below ⟨rfl, rfl, rfl, Nat.le_refl _, fun _ _ => rfl⟩
theorem NR.alloc {W : World} {a : Option Addr} {zs : List Int} (h : NR W a zs) (o : Obj) : NR (W.alloc o) a zs := h.below ((Below.refl _ _).alloc (Nat.le_refl _) _)
theorem IL.nr {B : Nat} {W : World} {v : Value} {ps : List Int} (h : IL B W v ps) : ∃ a cap, v = .slice a ps.length cap ∧ NR W a ps := by
  obtain ⟨a, cap, e, hc⟩ := h.cell
  exact ⟨a, cap, e, fun i hi => by
    obtain ⟨x, e, _, _, c⟩ := hc i hi
    exact ⟨x, e, c⟩⟩
theorem nr_made (W : World) (zs : List Int) (n : Nat) (h : n = W.heap.size) (t : TypeId) : NR (W.alloc (.cells (zs.map (Value.int .i64)).toArray t)) (some ⟨n, 0, none⟩) zs := fun i hi => by
  subst h
  refine ⟨_, rfl, ?_⟩
  have e : (⟨W.heap.size, 0, none⟩ : Addr).add i = ⟨W.heap.size, i, none⟩ := by unfold Addr.add; split <;> simp_all
  rw [e]
  unfold World.cell?
  simp only []
  rw [heap_alloc_new]
  simp [hi]
attribute [local irreducible] Int.lt Int.le
set_option maxRecDepth 100000 in
theorem sameI_yes (a b : Option Addr) (c d : Nat) (zs : List Int) (w : World) (hn : zs.length ≤ 1000000) (ha : NR w a zs) (hb : NR w b zs) :
    Calls Tryz.prog 10 #[.slice a zs.length c, .slice b zs.length d] w fun e w' => e = .returned (.bool true) ∧ ∃ q, w' = w.drewN q := by
  go_enter Tryz.func10, Tryz.ntmps10
  go_wp2_with fail
  go_loopw [5] (fun i wr => ∃ j : Nat, j ≤ zs.length ∧ i = .int .i64 (j : Int) ∧ ∃ q, wr = w.drewN q) (fun i _ => zs.length - (intOf i).toNat)
  case atStart => exact ⟨0, Nat.zero_le _, rfl, 0, rfl⟩
  case round =>
    obtain ⟨j, hj, rfl, q, rfl⟩ := hrel
    by_cases hlt : j < zs.length
    · have l1 : (j : Int) < (zs.length : Int) := by omega
      have l0 : (0 : Int) ≤ (j : Int) := by omega
      obtain ⟨x, rfl, x0⟩ := ha j hlt
      obtain ⟨y, rfl, y0⟩ := hb j hlt
      clear ha hb
      generalize zs[j] = z at *
      go_wp2_with fail
      go_quiet (fail)
      go_wp2_with fail
      exact ⟨⟨j + 1, by omega, by go_num, q + nq, by first | rfl | exact (World.drewN_add _ _ _).symm⟩, by simp [intOf]; omega⟩
    · obtain rfl : j = zs.length := by omega
      clear ha hb
      go_wp2_with fail
      go_ret
      exact ⟨rfl, q, rfl⟩

/-! ### Chapter 16's runs -/
def ru0 : SpS := pS 15
def ru1 : SpS := gA ru0 0 2
def ru2 : SpS := gA ru1 1 1
def ru3 : SpS := hA ru2 0 1
def ru4 : SpS := bkA ru3 [1]
def ru5 : SpS := gA ru4 1 2
theorem ru_ok : gOk ru0 0 2 = true ∧ gOk ru1 1 1 = true ∧ hOk ru2 0 1 = true ∧ gOk ru4 1 2 = true := by decide +kernel
theorem ru_pages : pgA ru2 0 = [0, 1] ∧ pgA ru2 1 = [2] ∧ hL ru2 0 1 = [1] ∧ pgA ru5 1 = [2, 1, 3] := by decide +kernel
theorem ru_free : ones64 (IntKind.u64.wrap ru3.f) = 1 ∧ ones64 (IntKind.u64.wrap ru4.f) = 2 := by decide +kernel
theorem ru_size : (∀ p, p < 2 → (ru0.X p).size ≤ 1000) ∧ (∀ p, p < 2 → (ru0.M p).size ≤ 1000) ∧ (∀ p, p < 2 → (ru1.X p).size ≤ 1000) ∧ (∀ p, p < 2 → (ru1.M p).size ≤ 1000) ∧ (∀ p, p < 2 → (ru2.X p).size ≤ 1000) ∧ (∀ p, p < 2 → (ru2.M p).size ≤ 1000) ∧ (∀ p, p < 2 → (ru4.X p).size ≤ 1000) ∧ (∀ p, p < 2 → (ru4.M p).size ≤ 1000) ∧ (∀ p, p < 2 → (ru5.X p).size ≤ 1000) := by decide +kernel
set_option maxRecDepth 100000 in
set_option maxHeartbeats 1000000 in
theorem spaceRuns_any (w : World) (hM : Bx w) :
    Calls Tryz.prog 16 #[] w fun e w' => e = .returned (.bool true) ∧ Below w.heap.size w w' := by
  obtain ⟨z0X, z0M, z1X, z1M, z2X, z2M, z4X, z4M, z5X⟩ := ru_size
  go_enter Tryz.func16, Tryz.ntmps16
  go_wp2_with fail
  refine (lpool_any 15 _).mono ?_; rintro e W0 ⟨t, d, q, L, rfl, S0⟩
  have R0 : SR _ ru0 := pl2_SR 15
  have c0 := S0.cell
  go_wp2_with fail
  refine (s_grow S0 R0 hM z0X z0M 0 2 (by decide)).mono ?_; rw [ru_ok.1]; rintro e W1 ⟨rfl, st1, R1, S1, _⟩
  rw [show gA ru0 0 2 = ru1 from rfl] at R1
  clear S0 R0 c0
  go_wp2_with fail
  refine (s_grow S1 R1 hM z1X z1M 1 1 (by decide)).mono ?_; rw [ru_ok.2.1]; rintro e W2 ⟨rfl, st2, R2, S2, _⟩
  rw [show gA ru1 1 1 = ru2 from rfl] at R2
  clear S1 R1
  go_wp2_with fail
  refine (s_pages S2 R2 z2X 0 (by decide)).mono ?_; rw [ru_pages.1]; rintro e W3 ⟨v1, rfl, il1, st3, R3, S3, _⟩
  obtain ⟨a1, k1, rfl, n1⟩ := il1.nr
  clear S2 R2 il1
  go_wp2_with fail
  refine (s_pages S3 R3 z2X 1 (by decide)).mono ?_; rw [ru_pages.2.1]; rintro e W4 ⟨v2, rfl, il2, st4, R4, S4, m4⟩
  obtain ⟨a2, k2, rfl, n2⟩ := il2.nr
  have n1 := n1.maps S3.v m4
  clear S3 R3 il2 m4
  go_wp2_with fail
  refine (s_shrink S4 R4 z2X z2M 0 1 (by decide)).mono ?_; rw [ru_ok.2.2.1, ru_pages.2.2.1]; rintro e W5 ⟨v3, rfl, il3, st5, R5, S5, m5⟩
  obtain ⟨a3, k3, rfl, n3⟩ := (il3.1 rfl).nr
  rw [show hA ru2 0 1 = ru3 from rfl] at R5
  have n1 := n1.maps S4.v m5
  have n2 := n2.maps S4.v m5
  clear S4 R4 il3 m5
  go_wp2_with fail
  refine (s_free S5 R5).mono ?_; rw [ru_free.1]; rintro e W6 ⟨rfl, st6, R6, S6, m6⟩
  have n1 := n1.maps S5.v m6
  have n2 := n2.maps S5.v m6
  have n3 := n3.maps S5.v m6
  clear S5 R5 m6
  go_wp2_with fail
  have S6' := S6.below ((Below.refl _ _).alloc (Nat.le_refl _) (Obj.cells #[.int .i64 1] 3))
  have nl := nr_made W6 [1] _ rfl 3
  have n1 := n1.alloc (Obj.cells #[.int .i64 1] 3)
  have n2 := n2.alloc (Obj.cells #[.int .i64 1] 3)
  have n3 := n3.alloc (Obj.cells #[.int .i64 1] 3)
  refine (s_back S6' R6 _ 1 [1] (by decide) nl).mono ?_; rintro e W7 ⟨rfl, st7, R7, S7, m7⟩
  rw [show bkA ru3 [1] = ru4 from rfl] at R7
  have n1 := n1.maps S6'.v m7
  have n2 := n2.maps S6'.v m7
  have n3 := n3.maps S6'.v m7
  clear S6 S6' R6 m7 nl
  go_wp2_with fail
  refine (s_free S7 R7).mono ?_; rw [ru_free.2]; rintro e W8 ⟨rfl, st8, R8, S8, m8⟩
  have n1 := n1.maps S7.v m8
  have n2 := n2.maps S7.v m8
  have n3 := n3.maps S7.v m8
  clear S7 R7 m8
  go_wp2_with fail
  refine (s_grow S8 R8 hM z4X z4M 1 2 (by decide)).mono ?_; rw [ru_ok.2.2.2]; rintro e W9 ⟨rfl, st9, R9, S9, m9⟩
  rw [show gA ru4 1 2 = ru5 from rfl] at R9
  have n1 := n1.maps S8.v m9
  have n2 := n2.maps S8.v m9
  have n3 := n3.maps S8.v m9
  clear S8 R8 m9
  go_wp2_with fail
  have n1 := n1.alloc (Obj.cells #[.int .i64 0, .int .i64 1] 3)
  have n2 := n2.alloc (Obj.cells #[.int .i64 0, .int .i64 1] 3)
  have n3 := n3.alloc (Obj.cells #[.int .i64 0, .int .i64 1] 3)
  have S9 := S9.below ((Below.refl _ _).alloc (Nat.le_refl _) (Obj.cells #[.int .i64 0, .int .i64 1] 3))
  have nl := nr_made W9 [0, 1] _ rfl 3
  refine (sameI_yes a1 _ k1 2 [0, 1] _ (by decide) n1 nl).mono ?_; rintro e W10 ⟨rfl, q1, rfl⟩
  have n2 := n2.drewN q1
  have n3 := n3.drewN q1
  have S9 := S9.drewN q1
  clear n1 nl
  generalize World.drewN (W9.alloc (Obj.cells #[.int .i64 0, .int .i64 1] 3)) q1 = W10 at *
  go_wp2_with fail
  have n2 := n2.alloc (Obj.cells #[.int .i64 2] 3)
  have n3 := n3.alloc (Obj.cells #[.int .i64 2] 3)
  have S9 := S9.below ((Below.refl _ _).alloc (Nat.le_refl _) (Obj.cells #[.int .i64 2] 3))
  have nl := nr_made W10 [2] _ rfl 3
  refine (sameI_yes a2 _ k2 1 [2] _ (by decide) n2 nl).mono ?_; rintro e W11 ⟨rfl, q2, rfl⟩
  have n3 := n3.drewN q2
  have S9 := S9.drewN q2
  clear n2 nl
  generalize World.drewN (W10.alloc (Obj.cells #[.int .i64 2] 3)) q2 = W11 at *
  go_wp2_with fail
  have n3 := n3.alloc (Obj.cells #[.int .i64 1] 3)
  have S9 := S9.below ((Below.refl _ _).alloc (Nat.le_refl _) (Obj.cells #[.int .i64 1] 3))
  have nl := nr_made W11 [1] _ rfl 3
  refine (sameI_yes a3 _ k3 1 [1] _ (by decide) n3 nl).mono ?_; rintro e W12 ⟨rfl, q3, rfl⟩
  have S9 := S9.drewN q3
  clear n3 nl
  generalize World.drewN (W11.alloc (Obj.cells #[.int .i64 1] 3)) q3 = W12 at *
  go_wp2_with fail
  refine (s_pages S9 R9 z5X 1 (by decide)).mono ?_; rw [ru_pages.2.2.2]; rintro e W13 ⟨v4, rfl, il4, st13, R13, S13, _⟩
  obtain ⟨a4, k4, rfl, n4⟩ := il4.nr
  clear S9 R9 il4
  go_wp2_with fail
  have n4 := n4.alloc (Obj.cells #[.int .i64 2, .int .i64 1, .int .i64 3] 3)
  have S13 := S13.below ((Below.refl _ _).alloc (Nat.le_refl _) (Obj.cells #[.int .i64 2, .int .i64 1, .int .i64 3] 3))
  have nl := nr_made W13 [2, 1, 3] _ rfl 3
  refine (sameI_yes a4 _ k4 3 [2, 1, 3] _ (by decide) n4 nl).mono ?_; rintro e W14 ⟨rfl, q4, rfl⟩
  have S13 := S13.drewN q4
  clear n4 nl
  generalize World.drewN (W13.alloc (Obj.cells #[.int .i64 2, .int .i64 1, .int .i64 3] 3)) q4 = W14 at *
  go_wp2_with fail
  go_ret
  exact ⟨rfl, S13.b⟩
end Go.Proofs.YtfcgkjbifnhjjaaGreatDoor.St
