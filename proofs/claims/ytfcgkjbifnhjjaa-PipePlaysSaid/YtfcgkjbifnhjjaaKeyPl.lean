/- What sorted and compacted places are, in plain Lean: they rise, and are just those that were there. No condition but those written in each statement. -/
import Derived.Test.YtfcgkjbifnhjjaaKeyRo
namespace Go.Proofs.Ytfcgkjbifnhjjaa.St
open Go.RowKit
set_option linter.unusedVariables false

theorem cu_sorted (d : Array Int) (hd : ∀ i j, i ≤ j → j < d.size → d[i]! ≤ d[j]!) (m : Nat) (hm : m ≤ d.size) :
    (Go.Lib.compactUpTo d m).Pairwise (· < ·) ∧ ∀ x, x ∈ Go.Lib.compactUpTo d m ↔ ∃ j, j < m ∧ d[j]! = x := by
  induction m with
  | zero => exact ⟨by simp [Go.Lib.compactUpTo], fun x => ⟨fun h => by simp [Go.Lib.compactUpTo] at h, fun ⟨j, hj, _⟩ => absurd hj (by omega)⟩⟩
  | succ m ih =>
    obtain ⟨h1, h2⟩ := ih (by omega)
    rw [Go.Lib.compactUpTo_succ]
    cases hk : Go.Lib.keeps d m with
    | true =>
      simp only [if_true]
      refine ⟨List.pairwise_append.2 ⟨h1, by simp, fun a ha b hb => ?_⟩, fun x => ?_⟩
      · obtain rfl : b = d[m]! := by simpa using hb
        obtain ⟨j, hj, rfl⟩ := (h2 a).1 ha
        unfold Go.Lib.keeps at hk
        rw [decide_eq_true_iff] at hk
        have g1 := hd j (m - 1) (by omega) (by omega)
        have g2 := hd (m - 1) m (by omega) (by omega)
        have g3 : d[m]! ≠ d[m - 1]! := hk.resolve_left (by omega)
        omega
      · rw [List.mem_append]
        constructor
        · rintro (h | h)
          · obtain ⟨j, hj, e⟩ := (h2 x).1 h; exact ⟨j, by omega, e⟩
          · have h' : x = d[m]! := by simpa using h
            exact ⟨m, by omega, h'.symm⟩
        · rintro ⟨j, hj, e⟩
          by_cases q : j = m
          · subst q; exact Or.inr (by simp [← e])
          · exact Or.inl ((h2 x).2 ⟨j, by omega, e⟩)
    | false =>
      simp only [Bool.false_eq_true, if_false, List.append_nil]
      refine ⟨h1, fun x => ⟨fun h => ?_, fun ⟨j, hj, e⟩ => ?_⟩⟩
      · obtain ⟨j, hj, e⟩ := (h2 x).1 h; exact ⟨j, by omega, e⟩
      · by_cases q : j = m
        · subst q
          unfold Go.Lib.keeps at hk
          rw [decide_eq_false_iff_not] at hk
          have hk1 : ¬ j = 0 := fun q => hk (Or.inl q)
          have hk2 : d[j]! = d[j - 1]! := Decidable.byContradiction fun q => hk (Or.inr q)
          exact (h2 x).2 ⟨j - 1, by omega, by rw [← hk2]; exact e⟩
        · exact (h2 x).2 ⟨j, by omega, e⟩

theorem srt_rises (ss : List Int) : ∀ i j, i ≤ j → j < (srt ss).toArray.size → (srt ss).toArray[i]! ≤ (srt ss).toArray[j]! := by
  intro i j hij hj
  have hs : (srt ss).Pairwise (fun x y => decide (x ≤ y) = true) := List.pairwise_mergeSort (fun a b c h1 h2 => by simp at *; omega) (fun a b => by simp; omega) ss
  have hj' : j < (srt ss).length := by simpa using hj
  rw [getElem!_pos _ i (by simpa using (show i < (srt ss).length by omega)), getElem!_pos _ j hj]
  by_cases e : i = j
  · subst e; exact Int.le_refl _
  · have := List.pairwise_iff_getElem.1 hs i j (by omega) hj' (by omega)
    simpa using this

/-- Sorted places rise, and are just the places of the keys that there are. -/
theorem ksorted_rises (z : Nat → Nat → Int) (n : Nat) : (ksorted z n).Pairwise (· < ·) := (cu_sorted _ (srt_rises (plN z n)) _ (by simp)).1
theorem ksorted_iff (z : Nat → Nat → Int) (n : Nat) (p : Int) : p ∈ ksorted z n ↔ p ∈ plN z n := by
  have h := (cu_sorted _ (srt_rises (plN z n)) (srt (plN z n)).length (by simp)).2 p
  show p ∈ Go.Lib.compactUpTo _ _ ↔ _
  rw [h]
  constructor
  · rintro ⟨j, hj, e⟩
    rw [getElem!_pos _ j (by simpa using hj)] at e
    rw [← e]
    exact List.mem_mergeSort.1 (List.getElem_mem (l := srt (plN z n)) hj)
  · intro hp
    obtain ⟨j, hj, e⟩ := List.getElem_of_mem (List.mem_mergeSort.2 hp : p ∈ srt (plN z n))
    exact ⟨j, hj, by rw [getElem!_pos _ j (by simpa using hj)]; simpa using e⟩
theorem plN_iff (z : Nat → Nat → Int) (n : Nat) (p : Int) : p ∈ plN z n ↔ 0 ≤ p ∧ ∃ i, i < n ∧ placeI (z i 0) (z i 1) = p := by
  induction n with
  | zero => simp [plN]
  | succ n ih =>
    rw [plN, List.mem_append, ih]
    constructor
    · rintro (⟨h0, i, hi, e⟩ | h)
      · exact ⟨h0, i, by omega, e⟩
      · split at h
        · rename_i hc
          obtain rfl : p = placeI (z n 0) (z n 1) := by simpa using h
          exact ⟨hc, n, by omega, rfl⟩
        · cases h
    · rintro ⟨h0, i, hi, e⟩
      by_cases q : i = n
      · subst q
        refine Or.inr ?_
        rw [if_pos (by omega)]
        simp [e]
      · exact Or.inl ⟨h0, i, by omega, e⟩
/-- Two rising lists with the same members are the same. -/
theorem rise_eq : ∀ (a b : List Int), a.Pairwise (· < ·) → b.Pairwise (· < ·) → (∀ x, x ∈ a ↔ x ∈ b) → a = b := by
  intro a
  induction a with
  | nil => intro b _ _ h; cases b with
    | nil => rfl
    | cons y b => exact absurd ((h y).2 (by simp)) (by simp)
  | cons x a ih =>
    intro b ha hb h
    cases b with
    | nil => exact absurd ((h x).1 (by simp)) (by simp)
    | cons y b =>
      rw [List.pairwise_cons] at ha hb
      have e : x = y := by
        rcases List.mem_cons.1 ((h x).1 (by simp)) with q | q
        · exact q
        · rcases List.mem_cons.1 ((h y).2 (by simp)) with r | r
          · exact r.symm
          · have := ha.1 y r; have := hb.1 x q; omega
      subst e
      congr 1
      refine ih b ha.2 hb.2 fun t => ⟨fun ht => ?_, fun ht => ?_⟩
      · rcases List.mem_cons.1 ((h t).1 (List.mem_cons_of_mem _ ht)) with q | q
        · have := ha.1 t ht; omega
        · exact q
      · rcases List.mem_cons.1 ((h t).2 (List.mem_cons_of_mem _ ht)) with q | q
        · have := hb.1 t ht; omega
        · exact q

/-- The same places in whatever order sort to the same. -/
theorem ksorted_perm {z z' : Nat → Nat → Int} {n n' : Nat} (h : ∀ p, 0 ≤ p → ((∃ i, i < n ∧ placeI (z i 0) (z i 1) = p) ↔ ∃ i, i < n' ∧ placeI (z' i 0) (z' i 1) = p)) : ksorted z n = ksorted z' n' :=
  rise_eq _ _ (ksorted_rises z n) (ksorted_rises z' n') fun p => by
    rw [ksorted_iff, ksorted_iff, plN_iff, plN_iff]
    exact ⟨fun ⟨h0, q⟩ => ⟨h0, (h p h0).1 q⟩, fun ⟨h0, q⟩ => ⟨h0, (h p h0).2 q⟩⟩
theorem k_place_lt (k m : Int) (h : 0 ≤ placeI k m) : placeI k m < 55 := by
  obtain ⟨h1, h2, h3, h4, h5⟩ := place_range k m h
  have hk : k = 1 ∨ k = 2 ∨ k = 3 ∨ k = 4 ∨ k = 5 ∨ k = 6 ∨ k = 7 ∨ k = 8 ∨ k = 9 ∨ k = 10 ∨ k = 11 ∨ k = 12 := by omega
  have hh : aheadI k + manyI k ≤ 55 := by
    rcases hk with rfl | rfl | rfl | rfl | rfl | rfl | rfl | rfl | rfl | rfl | rfl | rfl <;> decide
  omega
theorem ksorted_lt (z : Nat → Nat → Int) (n : Nat) (p : Int) (h : p ∈ ksorted z n) : 0 ≤ p ∧ p < 55 := by
  rw [ksorted_iff, plN_iff] at h
  obtain ⟨h0, i, _, rfl⟩ := h
  exact ⟨h0, k_place_lt _ _ h0⟩
/-- A key that a place tells has that place. -/
theorem place_of_at (p : Int) (h0 : 0 ≤ p) (h1 : p < 55) : placeI ((atK p).getD (0, 0)).1 ((atK p).getD (0, 0)).2 = p := by
  obtain ⟨q, rfl⟩ := Int.eq_ofNat_of_zero_le h0
  exact (k_row_at q (by omega)).2
/-- Sorted again it is the same. -/
theorem ksorted_again (ps : List Int) (hr : ps.Pairwise (· < ·)) (hp : ∀ p ∈ ps, 0 ≤ p ∧ p < 55) (z : Nat → Nat → Int) (hz : ∀ i (h : i < ps.length), placeI (z i 0) (z i 1) = ps[i]) : ksorted z ps.length = ps :=
  rise_eq _ _ (ksorted_rises z _) hr fun p => by
    rw [ksorted_iff, plN_iff]
    constructor
    · rintro ⟨h0, i, hi, e⟩
      rw [hz i hi] at e
      rw [← e]; exact List.getElem_mem hi
    · intro hm
      obtain ⟨i, hi, e⟩ := List.getElem_of_mem hm
      exact ⟨(hp p hm).1, i, hi, by rw [hz i hi]; exact e⟩
end Go.Proofs.Ytfcgkjbifnhjjaa.St
