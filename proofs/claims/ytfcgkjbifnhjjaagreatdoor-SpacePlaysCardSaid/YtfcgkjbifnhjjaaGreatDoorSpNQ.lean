/- Both stores' Grow, Shrink and Back as one: what cloisterlaw16.SpacePlays keeps. No condition but those written in each statement. -/
import Derived.Test.YtfcgkjbifnhjjaaGreatDoorQ65
import Derived.Test.YtfcgkjbifnhjjaaGreatDoorQ66
import Derived.Test.YtfcgkjbifnhjjaaGreatDoorTwoFQ
import Derived.Test.YtfcgkjbifnhjjaaGreatDoorQ53
namespace Go.Proofs.YtfcgkjbifnhjjaaGreatDoor.St
open Go.RowKit
set_option linter.unusedVariables false
theorem wf_le {a : Int} (h : (Lit.int .i64 a).wf = true) : a ≤ 9223372036854775807 := by
  simp only [Lit.wf, Bool.and_eq_true, decide_eq_true_eq] at h
  exact h.2
/-! ### what was written goes into the store: each object has what it had -/
theorem putAll_at (f : Int → Wr) : ∀ (ps : List Int) (base : Nat → Val), (∀ p ∈ ps, 0 ≤ p ∧ placeI (f p).1.1 (f p).1.2 = p) → ∀ q : Nat, putAll base (ps.map f) q = if (q : Int) ∈ ps then (f q).2 else base q
  | [], base, _, q => by simp [putAll]
  | p :: ps, base, h, q => by
    have ih := putAll_at f ps (storePut base (f p).1.1 (f p).1.2 (f p).2) (fun r hr => h r (List.mem_cons_of_mem _ hr)) q
    have hp := h p (List.mem_cons_self ..)
    show putAll (storePut base (f p).1.1 (f p).1.2 (f p).2) (ps.map f) q = _
    rw [ih]
    by_cases c : (q : Int) ∈ ps
    · rw [if_pos c, if_pos (List.mem_cons_of_mem _ c)]
    · rw [if_neg c]
      unfold storePut
      rw [if_neg (by omega), hp.2]
      unfold updB
      by_cases e : q = p.toNat
      · have e2 : (q : Int) = p := by omega
        rw [if_pos e, if_pos (by rw [e2]; exact List.mem_cons_self ..), e2]
      · rw [if_neg e, if_neg (fun m => by
          rcases List.mem_cons.1 m with m | m
          · omega
          · exact c m)]
theorem get_all (st : VSt) (k n : Int) : (VSt.fresh (putAll st.base (wrL st))).get k n = st.get k n := by
  unfold VSt.get
  by_cases h : placeI k n < 0
  · rw [if_pos h, if_pos h]
  · rw [if_neg h, if_neg h]
    obtain ⟨P, hP⟩ := Int.eq_ofNat_of_zero_le (show 0 ≤ placeI k n by omega)
    have hk : keyP (P : Int) = (k, n) := by rw [← hP]; exact keyP_place k n (by omega)
    have hlt : P < 55 := by have := k_place_lt k n (by omega); omega
    rw [hP]
    show (putAll st.base (wrL st)) P = _
    unfold wrL
    rw [putAll_at (fun p => (keyP p, (st.wr (keyP p).1 (keyP p).2).getD Val.zero)) (wrP st) st.base (fun p hp => by
      obtain ⟨h1, h2, _⟩ := (plF_mem _ _).1 hp
      refine ⟨h1, ?_⟩
      obtain ⟨p', rfl⟩ := Int.eq_ofNat_of_zero_le h1
      exact place_keyP p' (by omega)) P]
    have hm : ((P : Int) ∈ wrP st) ↔ (st.wr k n).isSome = true := by
      unfold wrP
      rw [plF_mem, hk]
      exact ⟨fun q => q.2.2, fun q => ⟨by omega, by omega, q⟩⟩
    cases hw : st.wr k n with
    | none => rw [if_neg (by rw [hm, hw]; simp)]; rfl
    | some x => rw [if_pos (by rw [hm, hw]; rfl), hk, hw]; rfl
/-! ### the sizes of a process's pages and of its memory -/
structure SI (st : VSt) : Prop where
  v : VOk st
  z : ∀ p, ((st.get 4 p).s.size ≤ 6 ∧ (st.get 12 p).s.size ≤ 16 * (st.get 4 p).s.size + 200) ∨ ((st.get 4 p).s.size ≤ 200 ∧ (st.get 12 p).s.size ≤ 200)
theorem SI.x {st : VSt} (h : SI st) (p : Int) : ((st.get 4 p).s.size : Int) ≤ 1000 := by have := h.z p; omega
theorem SI.m {st : VSt} (h : SI st) (p : Int) : ((st.get 12 p).s.size : Int) ≤ 1000 := by have := h.z p; omega
theorem SI.same {st st' : VSt} (h : SI st) (v : VOk st') (g : ∀ k n, st'.get k n = st.get k n) : SI st' := ⟨v, fun p => by rw [g, g]; exact h.z p⟩
theorem SI.saw {st : VSt} (h : SI st) (k n : Int) : SI (st.saw k n) := h.same (h.v.saw _ _) (fun _ _ => get_saw _ _ _ _ _)
theorem SI.qSaw {st : VSt} (h : SI st) (p : Int) : SI (qSaw st p) := by
  unfold St.qSaw
  split
  · exact h
  · split
    · exact (h.saw _ _).saw _ _
    · exact h.saw _ _
theorem SI.saw2 {st : VSt} (h : SI st) (p : Int) : SI (saw2 st p) := ((h.qSaw p).saw _ _).saw _ _
theorem SI.fresh {base : Nat → Val} (h : ∀ p, (base p).s.size ≤ 200) : SI (VSt.fresh base) :=
  ⟨VOk.fresh _, fun p => Or.inr (by
    have key : ∀ k, ((VSt.fresh base).get k p).s.size ≤ 200 := fun k => by
      unfold VSt.get
      split
      · simp [Val.zero]
      · exact h _
    exact ⟨key 4, key 12⟩)⟩
theorem SI.all {st : VSt} (h : SI st) : SI (VSt.fresh (putAll st.base (wrL st))) := h.same (VOk.fresh _) (get_all st)
/-- The process's two objects and the pool are written anew. -/
theorem SI.put3 {st : VSt} (h : SI st) (p : Int) (h4 : 0 ≤ placeI 4 p) (h12 : 0 ≤ placeI 12 p) (x m y : Val)
    (hz : (x.s.size ≤ 6 ∧ m.s.size ≤ 16 * x.s.size + 200) ∨ (x.s.size ≤ 200 ∧ m.s.size ≤ 200)) : SI (((st.put 4 p x).put 12 p m).put 2 0 y) := by
  refine ⟨((h.v.put _ _ _).put _ _ _).put _ _ _, fun q => ?_⟩
  have a4 : (((st.put 4 p x).put 12 p m).put 2 0 y).get 4 q = (st.put 4 p x).get 4 q := by
    rw [get_put_other _ 2 0 4 q _ (by omega), get_put_other _ 12 p 4 q _ (by omega)]
  have a12 : (((st.put 4 p x).put 12 p m).put 2 0 y).get 12 q = ((st.put 4 p x).put 12 p m).get 12 q := by
    rw [get_put_other _ 2 0 12 q _ (by omega)]
  rw [a4, a12]
  by_cases e : q = p
  · subst e
    rw [get_put_same _ _ _ _ h4, get_put_same _ _ _ _ h12]
    exact hz
  · rw [get_put_other _ 4 p 4 q _ (by omega), get_put_other _ 12 p 12 q _ (by omega), get_put_other _ 4 p 12 q _ (by omega)]
    exact h.z q
theorem state_in {st : VSt} {p : Int} (h : qState st p ≠ 0) : 0 ≤ p ∧ p < 8 := by
  unfold qState qVal qUsed at h
  by_cases c : p < 0 ∨ 8 ≤ p
  · rw [if_pos c, if_neg (by decide)] at h
    exact absurd rfl h
  · omega
theorem places (p : Int) (h : 0 ≤ p ∧ p < 8) : 0 ≤ placeI 4 p ∧ 0 ≤ placeI 12 p := by
  obtain ⟨P, rfl⟩ := Int.eq_ofNat_of_zero_le h.1
  have hP : P < 8 := by omega
  have : ∀ P : Nat, P < 8 → 0 ≤ placeI 4 (P : Int) ∧ 0 ≤ placeI 12 (P : Int) := by decide +kernel
  exact this P hP
/-! ### what Grow, Shrink and Back tell and leave, whatever is asked -/
def gwOk (st : VSt) (p n : Int) : Bool := if qState st p = 0 ∨ n < 0 then false else grOk st p n
def gwEnd (st : VSt) (p n : Int) : VSt := if qState st p = 0 ∨ n < 0 then qSaw st p else grEnd st p n
def swOk (st : VSt) (p n : Int) : Bool := if qState st p = 0 ∨ n < 0 then false else shOk st p n
def swEnd (st : VSt) (p n : Int) : VSt := if qState st p = 0 ∨ n < 0 then qSaw st p else shEnd st p n
def swL (st : VSt) (p n : Int) : List Int := if swOk st p n = true then shL st p n else []
theorem SI.grow {st : VSt} (h : SI st) (p n : Int) : SI (gwEnd st p n) := by
  unfold gwEnd
  by_cases c : qState st p = 0 ∨ n < 0
  · rw [if_pos c]; exact h.qSaw p
  · rw [if_neg c]
    unfold grEnd
    by_cases c1 : 6 - ((st.get 4 p).s.size : Int) < n
    · rw [if_pos c1]; exact h.saw2 p
    · rw [if_neg c1]
      split
      · exact (h.saw2 p).saw _ _
      · have hp := places p (state_in (st := st) (fun q => c (Or.inl q)))
        refine (((h.saw2 p).saw 2 0).saw 2 0).put3 p hp.1 hp.2 _ _ _ (Or.inl ?_)
        have hz := h.z p
        have e1 : (grX st p n).s.size = (st.get 4 p).s.size + n.toNat := gS_size _ _ _
        have e2 : (grM st p n).s.size = (st.get 12 p).s.size + (n * 16).toNat := by
          show ((st.get 12 p).s ++ noughts (n * 16).toNat).size = _
          rw [ByteArray.size_append, noughts_size]
        rw [e1, e2]
        omega
theorem SI.shrink {st : VSt} (h : SI st) (p n : Int) : SI (swEnd st p n) := by
  unfold swEnd
  by_cases c : qState st p = 0 ∨ n < 0
  · rw [if_pos c]; exact h.qSaw p
  · rw [if_neg c]
    unfold shEnd
    split
    · exact h.saw2 p
    · rename_i c1
      have hp := places p (state_in (st := st) (fun q => c (Or.inl q)))
      refine ((h.saw2 p).saw 2 0).put3 p hp.1 hp.2 _ _ _ ?_
      have hz := h.z p
      have e1 : (shX st p n).s.size = min ((st.get 4 p).s.size - n).toNat (st.get 4 p).s.size := by
        show (headS (st.get 4 p).s (((st.get 4 p).s.size : Int) - n)).size = _
        unfold headS; rw [ByteArray.size_extract]; omega
      have e2 : (shM st p n).s.size = (min ((st.get 12 p).s.size : Int) ((((st.get 4 p).s.size : Int) - n) * 16)).toNat := by
        show (headS (st.get 12 p).s (min ((st.get 12 p).s.size : Int) ((((st.get 4 p).s.size : Int) - n) * 16))).size = _
        unfold headS; rw [ByteArray.size_extract]; omega
      rw [e1, e2]
      omega
theorem SI.back {st : VSt} (h : SI st) (zs : List Int) : SI ((st.saw 2 0).put 2 0 (bkV (st.get 2 0) zs)) :=
  ⟨(h.v.saw _ _).put _ _ _, fun q => by
    rw [get_put_other _ _ _ _ _ _ (by omega), get_put_other _ _ _ _ _ _ (by omega), get_saw, get_saw]
    exact h.z q⟩
end Go.Proofs.YtfcgkjbifnhjjaaGreatDoor.St
