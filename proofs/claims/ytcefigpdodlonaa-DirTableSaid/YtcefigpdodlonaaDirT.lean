/- A directory's entries as a table of one-letter names; plain lists. No condition but those written in each statement. -/
import Derived.Test.YtcefigpdodlonaaDirRu
import Derived.Test.YtcefigpdodlonaaSMap
namespace Go.Proofs.Ytcefigpdodlonaa.St
open Go.RowKit
set_option linter.unusedVariables false

/-- A name of one letter. -/
def letS (g : Nat) : ByteArray := ⟨#[UInt8.ofNat (97 + g)]⟩
def isLet (s : ByteArray) : Prop := ∃ g, g < 12 ∧ s = letS g
theorem let_right : ∀ g, g < 12 → rightL (letS g).data.toList = true ∧ ownName (letS g) = true ∧ (letS g).size = 1 := by decide +kernel
theorem isLet.right {s : ByteArray} (h : isLet s) : rightL s.data.toList = true := by obtain ⟨g, hg, rfl⟩ := h; exact (let_right g hg).1
theorem isLet.own {s : ByteArray} (h : isLet s) : ownName s = true := by obtain ⟨g, hg, rfl⟩ := h; exact (let_right g hg).2.1
theorem isLet.size {s : ByteArray} (h : isLet s) : s.size = 1 := by obtain ⟨g, hg, rfl⟩ := h; exact (let_right g hg).2.2

/-- The entries are a table of what f says, of n names. -/
structure TB (es : List Ent) (f : ByteArray → Option Int) (n : Nat) : Prop where
  le : es.length ≤ 8
  once : ∀ i j (hi : i < es.length) (hj : j < es.length), thereE es[i] = true → thereE es[j] = true → es[i].1 = es[j].1 → i = j
  lets : ∀ e ∈ es, thereE e = true → isLet e.1 ∧ f e.1 = some e.2
  full : ∀ s v, isLet s → f s = some v → ∃ e ∈ es, thereE e = true ∧ e.1 = s
  many : (namesE es).length = n

theorem bears_iff {s : ByteArray} {e : Ent} : bearsE s e = true ↔ thereE e = true ∧ e.1 = s := by unfold bearsE; simp
theorem TB.nil : TB [] (fun _ => none) 0 := by
  refine ⟨by simp, ?_, ?_, ?_, rfl⟩
  · intro i j hi
    exact absurd hi (by simp)
  · intro e h
    simp at h
  · intro s v _ h
    cases h

theorem TB.place {es : List Ent} {f : ByteArray → Option Int} {n : Nat} (T : TB es f n) {s : ByteArray} (hs : isLet s) :
    (f s = none ∧ placeE es s = -1) ∨ ∃ j : Nat, ∃ hj : j < es.length, ∃ v, f s = some v ∧ placeE es s = j ∧ thereE es[j] = true ∧ es[j] = (s, v) := by
  have hp : placeE es s = findI (bearsE s) es := by unfold placeE; rw [hs.right, if_pos rfl]
  rw [hp]
  rcases findI_cases (bearsE s) es with ⟨e, hn⟩ | ⟨j, hj, e, hb, _⟩
  · refine Or.inl ⟨?_, e⟩
    cases hf : f s with
    | none => rfl
    | some v =>
      obtain ⟨x, hx, h1, h2⟩ := T.full s v hs hf
      have := hn x hx
      rw [bears_iff.2 ⟨h1, h2⟩] at this
      cases this
  · obtain ⟨h1, h2⟩ := bears_iff.1 hb
    obtain ⟨_, hf⟩ := T.lets es[j] (List.getElem_mem hj) h1
    rw [h2] at hf
    exact Or.inr ⟨j, hj, es[j].2, hf, e, h1, by rw [← h2]⟩

theorem namesE_nil : namesE [] = [] := rfl
theorem names_app (a b : List Ent) : namesE (a ++ b) = namesE a ++ namesE b := by unfold namesE; simp
theorem names_set (es : List Ent) (j : Nat) (hj : j < es.length) (e : Ent) : (namesE (es.set j e)).length + (if thereE es[j] = true then 1 else 0) = (namesE es).length + (if thereE e = true then 1 else 0) := by
  have h1 : es = es.take j ++ [es[j]] ++ es.drop (j + 1) := by
    rw [List.append_assoc]; simp
  have h2 : es.set j e = es.take j ++ [e] ++ es.drop (j + 1) := by
    rw [List.set_eq_take_append_cons_drop, if_pos hj]; simp
  have h3 : ∀ x : Ent, (namesE [x]).length = if thereE x = true then 1 else 0 := by
    intro x
    unfold namesE
    by_cases c : thereE x = true
    · simp [c]
    · simp [c]
  rw [h2, names_app, names_app, List.length_append, List.length_append, h3]
  have h4 : (namesE es).length = (namesE (es.take j)).length + (if thereE es[j] = true then 1 else 0) + (namesE (es.drop (j + 1))).length := by
    conv => lhs; rw [h1]
    rw [names_app, names_app, List.length_append, List.length_append, h3]
  rw [h4]; omega

theorem names_there (es : List Ent) (h : ∀ e ∈ es, thereE e = true) : (namesE es).length = es.length := by
  unfold namesE
  rw [List.length_map, List.filter_eq_self.2 h]
theorem names_lt (es : List Ent) (j : Nat) (hj : j < es.length) (h : thereE es[j] = false) : (namesE es).length < es.length := by
  have := names_set es j hj (⟨#[]⟩, 1)
  rw [h, if_neg (by decide), if_pos (by decide +kernel)] at this
  have h2 := namesE_len (es.set j (⟨#[]⟩, 1))
  simp at h2
  omega

theorem TB.added {es : List Ent} {f : ByteArray → Option Int} {n : Nat} (T : TB es f n) {s : ByteArray} (hs : isLet s) {m : Int} (h1 : 1 ≤ m) (h2 : m < 16) :
    addB es s m = (!(f s).isSome && decide (n < 8)) ∧ (f s = none → n < 8 → TB (addE es s m) (updS f s m) (n + 1)) ∧ (addB es s m = false → addE es s m = es) := by
  have ht : thereE (s, m) = true := by unfold thereE; simp; omega
  have e0 : addB es s m = (decide (placeE es s < 0) && (!decide (findI (fun e => !thereE e) es < 0) || decide (es.length < 8))) := by
    unfold addB; rw [hs.right, ht]; rfl
  have e3 : addB es s m = false → addE es s m = es := fun h => by unfold addE; rw [h]; rfl
  rcases T.place hs with ⟨hf, hp⟩ | ⟨j, hj, v, hf, hp, _⟩
  · have h8 : (!decide (findI (fun e => !thereE e) es < 0) || decide (es.length < 8)) = decide (n < 8) := by
      rcases findI_cases (fun e => !thereE e) es with ⟨e, hn⟩ | ⟨j, hj, e, hb, _⟩
      · have := names_there es (fun x hx => by simpa using hn x hx)
        rw [e, ← T.many, this]; rfl
      · have hl := names_lt es j hj (by simpa using hb)
        rw [T.many] at hl
        have := T.le
        rw [e, decide_eq_false (by omega : ¬ (j : Int) < 0), decide_eq_true (by omega : n < 8)]; rfl
    have e1 : addB es s m = decide (n < 8) := by rw [e0, hp, h8]; rfl
    refine ⟨by rw [e1, hf]; rfl, fun _ hn => ?_, e3⟩
    have e2 : addB es s m = true := by rw [e1, decide_eq_true hn]
    have hno : ∀ e ∈ es, thereE e = true → e.1 ≠ s := by
      intro e he hte hes
      have := (T.lets e he hte).2
      rw [hes, hf] at this; cases this
    unfold addE
    rw [if_pos e2]
    rcases findI_cases (fun e => !thereE e) es with ⟨e, hall⟩ | ⟨j, hj, e, hb, _⟩
    · rw [e, if_pos (by decide)]
      have hlen : es.length < 8 := by
        have := names_there es (fun x hx => by simpa using hall x hx)
        rw [← T.many, this] at hn; exact hn
      refine ⟨by simp; omega, ?_, ?_, ?_, ?_⟩
      · intro i k hi hk t1 t2 e1
        simp at hi hk
        by_cases c1 : i < es.length
        · rw [List.getElem_append_left c1] at t1 e1
          by_cases c2 : k < es.length
          · rw [List.getElem_append_left c2] at t2 e1
            exact T.once i k c1 c2 t1 t2 e1
          · obtain rfl : k = es.length := by omega
            simp at e1
            exact absurd e1 (hno _ (List.getElem_mem c1) t1)
        · obtain rfl : i = es.length := by omega
          by_cases c2 : k < es.length
          · rw [List.getElem_append_left c2] at t2 e1
            simp at e1
            exact absurd e1.symm (hno _ (List.getElem_mem c2) t2)
          · omega
      · intro x hx hxt
        rw [List.mem_append, List.mem_singleton] at hx
        rcases hx with hx | rfl
        · obtain ⟨a, b⟩ := T.lets x hx hxt
          exact ⟨a, by unfold updS; rw [if_neg (hno x hx hxt)]; exact b⟩
        · exact ⟨hs, by unfold updS; rw [if_pos rfl]⟩
      · intro x v hx hv
        unfold updS at hv
        split at hv
        · rename_i q
          exact ⟨(s, m), by simp, ht, q.symm⟩
        · obtain ⟨y, hy, a, b⟩ := T.full x v hx hv
          exact ⟨y, by simp [hy], a, b⟩
      · rw [names_app, List.length_append, T.many]
        unfold namesE; simp [ht]
    · rw [e, if_neg (by omega)]
      rw [show ((j : Nat) : Int).toNat = j by omega]
      have hb' : thereE es[j] = false := by simpa using hb
      refine ⟨by simp; exact T.le, ?_, ?_, ?_, ?_⟩
      · intro i k hi hk t1 t2 e1
        simp at hi hk
        rw [List.getElem_set] at t1 e1
        rw [List.getElem_set] at t2 e1
        by_cases c1 : j = i
        · by_cases c2 : j = k
          · omega
          · rw [if_pos c1, if_neg c2] at e1
            rw [if_neg c2] at t2
            exact absurd e1.symm (hno _ (List.getElem_mem hk) t2)
        · rw [if_neg c1] at t1 e1
          by_cases c2 : j = k
          · rw [if_pos c2] at e1
            exact absurd e1 (hno _ (List.getElem_mem hi) t1)
          · rw [if_neg c2] at t2 e1
            exact T.once i k hi hk t1 t2 e1
      · intro x hx hxt
        rcases List.mem_or_eq_of_mem_set hx with hx | rfl
        · obtain ⟨a, b⟩ := T.lets x hx hxt
          exact ⟨a, by unfold updS; rw [if_neg (hno x hx hxt)]; exact b⟩
        · exact ⟨hs, by unfold updS; rw [if_pos rfl]⟩
      · intro x v hx hv
        unfold updS at hv
        split at hv
        · rename_i q
          exact ⟨(s, m), List.mem_set hj _, ht, q.symm⟩
        · obtain ⟨y, hy, a, b⟩ := T.full x v hx hv
          obtain ⟨i, hi, rfl⟩ := List.mem_iff_getElem.1 hy
          refine ⟨es[i], List.mem_iff_getElem.2 ⟨i, by simpa using hi, ?_⟩, a, b⟩
          rw [List.getElem_set, if_neg]
          rintro rfl
          rw [hb'] at a; cases a
      · have := names_set es j hj (s, m)
        rw [hb', if_neg (by decide), ht, if_pos rfl, T.many] at this
        omega
  · have e1 : addB es s m = false := by rw [e0, hp, decide_eq_false (by omega : ¬ (j : Int) < 0)]; rfl
    exact ⟨by rw [e1, hf]; rfl, (fun q => by rw [hf] at q; cases q), e3⟩

theorem TB.rem {es : List Ent} {f : ByteArray → Option Int} {n : Nat} (T : TB es f n) {s : ByteArray} (hs : isLet s) :
    remB es s = (f s).isSome ∧ TB (remE es s) (delS f s) (if (f s).isSome then n - 1 else n) := by
  rcases T.place hs with ⟨hf, hp⟩ | ⟨j, hj, v, hf, hp, hjt, hje⟩
  · unfold remB remE
    rw [hp, hf]
    refine ⟨rfl, ?_⟩
    rw [if_pos (by decide)]
    refine ⟨T.le, T.once, fun e he h => ?_, fun x v hx hv => ?_, by simpa using T.many⟩
    · obtain ⟨a, b⟩ := T.lets e he h
      refine ⟨a, ?_⟩
      unfold delS
      rw [if_neg]
      · exact b
      · intro q; rw [q, hf] at b; cases b
    · unfold delS at hv
      split at hv
      · cases hv
      · exact T.full x v hx hv
  · unfold remB remE
    rw [hp, hf, decide_eq_false (by omega : ¬ (j : Int) < 0)]
    refine ⟨rfl, ?_⟩
    rw [if_neg (by omega), show ((j : Nat) : Int).toNat = j by omega]
    have hz : thereE ((bs [], 0) : Ent) = false := by decide +kernel
    refine ⟨by simp; exact T.le, ?_, ?_, ?_, ?_⟩
    · intro i k hi hk t1 t2 e1
      simp at hi hk
      rw [List.getElem_set] at t1 e1
      rw [List.getElem_set] at t2 e1
      by_cases c1 : j = i
      · rw [if_pos c1, hz] at t1; cases t1
      · rw [if_neg c1] at t1 e1
        by_cases c2 : j = k
        · rw [if_pos c2, hz] at t2; cases t2
        · rw [if_neg c2] at t2 e1
          exact T.once i k hi hk t1 t2 e1
    · intro x hx hxt
      obtain ⟨i, hi, rfl⟩ := List.mem_iff_getElem.1 hx
      simp at hi
      rw [List.getElem_set] at hxt ⊢
      by_cases c : j = i
      · rw [if_pos c, hz] at hxt; cases hxt
      · rw [if_neg c] at hxt ⊢
        obtain ⟨a, b⟩ := T.lets _ (List.getElem_mem hi) hxt
        refine ⟨a, ?_⟩
        unfold delS
        rw [if_neg]
        · exact b
        · intro q
          exact c (T.once j i hj hi hjt hxt (by rw [q, hje]))
    · intro x v' hx hv
      unfold delS at hv
      split at hv
      · cases hv
      · rename_i q
        obtain ⟨y, hy, a, b⟩ := T.full x v' hx hv
        obtain ⟨i, hi, rfl⟩ := List.mem_iff_getElem.1 hy
        refine ⟨es[i], List.mem_iff_getElem.2 ⟨i, by simpa using hi, ?_⟩, a, b⟩
        rw [List.getElem_set, if_neg]
        rintro rfl
        rw [hje] at b
        exact q b.symm
    · have := names_set es j hj (bs [], 0)
      rw [hjt, if_pos rfl, hz, if_neg (by decide), T.many] at this
      simp; omega

theorem TB.bare {es : List Ent} {f : ByteArray → Option Int} {n : Nat} (T : TB es f n) : bareE es = ((n : Int) == 0) := by
  unfold bareE
  have hall : ∀ x ∈ namesE es, ownName x = true := by
    intro x hx
    unfold namesE at hx
    obtain ⟨e, he, rfl⟩ := List.mem_map.1 hx
    rw [List.mem_filter] at he
    exact (T.lets e he.1 he.2).1.own
  rw [← T.many]
  cases h : namesE es with
  | nil => rfl
  | cons a l =>
    rw [h] at hall
    simp [hall a (by simp)]
    omega
theorem TB.named {es : List Ent} {f : ByteArray → Option Int} {n : Nat} (T : TB es f n) (i : Nat) (hi : i < (namesE es).length) : isLet (namesE es)[i] ∧ ∃ v, f (namesE es)[i] = some v ∧ fndB es (namesE es)[i] = true ∧ fndN es (namesE es)[i] = v := by
  have hx : (namesE es)[i] ∈ namesE es := List.getElem_mem hi
  generalize (namesE es)[i] = x at *
  unfold namesE at hx
  obtain ⟨e, he, rfl⟩ := List.mem_map.1 hx
  rw [List.mem_filter] at he
  obtain ⟨a, b⟩ := T.lets e he.1 he.2
  refine ⟨a, e.2, b, ?_⟩
  rcases T.place a with ⟨hf, _⟩ | ⟨j, hj, v, hf, hp, hjt, hje⟩
  · rw [hf] at b; cases b
  · rw [hf] at b
    unfold fndB fndN
    rw [hp, decide_eq_false (by omega : ¬ (j : Int) < 0), if_neg (by omega)]
    refine ⟨rfl, ?_⟩
    simp [List.getD, List.getElem?_eq_getElem hj, hje]
    simpa using b
end Go.Proofs.Ytcefigpdodlonaa.St
