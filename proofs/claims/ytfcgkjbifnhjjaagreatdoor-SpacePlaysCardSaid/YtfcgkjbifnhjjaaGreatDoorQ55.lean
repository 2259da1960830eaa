/- The walk of cloisterlaw7.KeyRow. What sorted and compacted places are, in plain Lean: they rise, and are just those that were there. The walk of cloisterlaw7.KeyKinds. The contract of key.Within: is each object of a one of b. The contract of cloisterbook.Intact of keys, where the list is as it was. The contracts of the document's own answers All, Place, At. No condition but those written in each statement. -/
import Derived.Test.YtfcgkjbifnhjjaaGreatDoorKeyRuQ
import Derived.Test.YtfcgkjbifnhjjaaGreatDoorLawKit
import Derived.Test.YtfcgkjbifnhjjaaGreatDoorWithin
import Derived.Deep.Cut
import Derived.Laws.StructEq
import Derived.BigQuiet
namespace Go.Proofs.YtfcgkjbifnhjjaaGreatDoor.St
open Go.RowKit
set_option linter.unusedVariables false

/-- Of the 55 places. -/
def rowOk (p : Nat) : Bool := (atK p).isSome && placeI ((atK p).getD (0, 0)).1 ((atK p).getD (0, 0)).2 == (p : Int)
def pairOk (p q : Nat) : Bool := decide (((atK p).getD (0, 0)).1 < ((atK q).getD (0, 0)).1) || (((atK p).getD (0, 0)).1 == ((atK q).getD (0, 0)).1 && decide (((atK p).getD (0, 0)).2 < ((atK q).getD (0, 0)).2))
theorem rows_ok : (List.range 55).all rowOk = true := by decide +kernel
theorem pairs_ok : (List.range 55).all (fun q => (List.range q).all fun p => pairOk p q) = true := by decide +kernel

theorem k_row_at (p : Nat) (h : p < 55) : (atK p).isSome = true ∧ placeI ((atK p).getD (0, 0)).1 ((atK p).getD (0, 0)).2 = p := by
  have := List.all_eq_true.1 rows_ok p (by simpa using h)
  unfold rowOk at this
  rw [Bool.and_eq_true] at this
  exact ⟨this.1, by simpa using this.2⟩
theorem pair_at (p q : Nat) (h : q < 55) (hp : p < q) : ((atK p).getD (0, 0)).1 < ((atK q).getD (0, 0)).1 ∨ ((atK p).getD (0, 0)).1 = ((atK q).getD (0, 0)).1 ∧ ((atK p).getD (0, 0)).2 < ((atK q).getD (0, 0)).2 := by
  have := List.all_eq_true.1 (List.all_eq_true.1 pairs_ok q (by simpa using h)) p (by simpa using hp)
  unfold pairOk at this
  rw [Bool.or_eq_true, Bool.and_eq_true] at this
  rcases this with a | ⟨a, b⟩
  · exact Or.inl (by simpa using a)
  · exact Or.inr ⟨by simpa using a, by simpa using b⟩

theorem at_row (p : Nat) (h : p < 55) (w : World) : Calls Tryz.prog 96 #[.int .i64 p] w fun e w' => e = .returned (.tuple #[.agg #[.int .i64 ((atK p).getD (0, 0)).1, .int .i64 ((atK p).getD (0, 0)).2], .bool true]) ∧ Below w.heap.size w w' := by
  have k := at_any p (by omega) w
  rw [(k_row_at p h).1] at k
  exact k
theorem atF_out : ∀ d : Nat, d ≤ 12 → ∀ p : Int, 55 - aheadN (13 - d) ≤ p → atF d p = none := by
  intro d
  induction d with
  | zero => intro _ p _; rfl
  | succ d ih =>
    intro hd p hp
    have hs := aheadN_succ (12 - d) (by omega)
    rw [show 12 - d + 1 = 13 - d by omega] at hs
    rw [show 13 - (d + 1) = 12 - d by omega] at hp
    have hm := many_bounds (12 - d : Nat)
    have hb : manyI (12 - d : Nat) ≤ 55 - aheadN (12 - d) := by
      have : d = 0 ∨ d = 1 ∨ d = 2 ∨ d = 3 ∨ d = 4 ∨ d = 5 ∨ d = 6 ∨ d = 7 ∨ d = 8 ∨ d = 9 ∨ d = 10 ∨ d = 11 := by omega
      rcases this with rfl | rfl | rfl | rfl | rfl | rfl | rfl | rfl | rfl | rfl | rfl | rfl <;> decide
    rw [atF, if_neg (by omega)]
    exact ih (by omega) _ (by omega)
theorem at_out (p : Int) (h : p < 0 ∨ 55 ≤ p) (h2 : p ≤ 9223372036854775807) (w : World) : Calls Tryz.prog 96 #[.int .i64 p] w fun e w' => e = .returned (.tuple #[.agg #[.int .i64 0, .int .i64 0], .bool false]) ∧ Below w.heap.size w w' := by
  have k := at_any p h2 w
  have e : atK p = none := by
    unfold atK
    by_cases q : p < 0
    · rw [if_pos q]
    · rw [if_neg q]; exact atF_out 12 (by omega) p (by rw [show aheadN (13 - 12) = 0 by decide]; omega)
  rw [show atV p = .agg #[.int .i64 0, .int .i64 0] by unfold atV; rw [e]; rfl, e] at k
  exact k
theorem place_row (A C : Int) (P : Int) (h : placeI A C = P) (w : World) : Calls Tryz.prog 69 #[.agg #[.int .i64 A, .int .i64 C]] w fun e w' => e = .returned (.int .i64 P) ∧ Below w.heap.size w w' := by
  have k := place_any A C w
  rw [h] at k
  exact k

attribute [local irreducible] Int.lt Int.le
end Go.Proofs.YtfcgkjbifnhjjaaGreatDoor.St

namespace Go.Proofs.YtfcgkjbifnhjjaaGreatDoor.St
open Go.RowKit
set_option linter.unusedVariables false

theorem cu_sorted (d : Array Int) (hd : ∀ i j, i ≤ j → j < d.size → d[i]! ≤ d[j]!) (m : Nat) (hm : m ≤ d.size) :
    (Go.Lib.compactUpTo d m).Pairwise (· < ·) ∧ ∀ x, x ∈ Go.Lib.compactUpTo d m ↔ ∃ j, j < m ∧ d[j]! = x := by
  induction m with
  | zero => exact ⟨by simp [Go.Lib.compactUpTo], fun x => ⟨fun h => by simp [Go.Lib.compactUpTo] at h, fun ⟨j, hj, _⟩ => absurd hj (by omega)⟩⟩
  | succ m ih =>
    obtain ⟨h1, h2⟩ := ih (by omega)
    rw [Go.Lib.compactUpTo_succ]
    cases hk : Go.Lib.keeps d m with
    | true =>
      simp only [if_true]
      refine ⟨List.pairwise_append.2 ⟨h1, by simp, fun a ha b hb => ?_⟩, fun x => ?_⟩
      · obtain rfl : b = d[m]! := by simpa using hb
        obtain ⟨j, hj, rfl⟩ := (h2 a).1 ha
        unfold Go.Lib.keeps at hk
        rw [decide_eq_true_iff] at hk
        have g1 := hd j (m - 1) (by omega) (by omega)
        have g2 := hd (m - 1) m (by omega) (by omega)
        have g3 : d[m]! ≠ d[m - 1]! := hk.resolve_left (by omega)
        omega
      · rw [List.mem_append]
        constructor
        · rintro (h | h)
          · obtain ⟨j, hj, e⟩ := (h2 x).1 h; exact ⟨j, by omega, e⟩
          · have h' : x = d[m]! := by simpa using h
            exact ⟨m, by omega, h'.symm⟩
        · rintro ⟨j, hj, e⟩
          by_cases q : j = m
          · subst q; exact Or.inr (by simp [← e])
          · exact Or.inl ((h2 x).2 ⟨j, by omega, e⟩)
    | false =>
      simp only [Bool.false_eq_true, if_false, List.append_nil]
      refine ⟨h1, fun x => ⟨fun h => ?_, fun ⟨j, hj, e⟩ => ?_⟩⟩
      · obtain ⟨j, hj, e⟩ := (h2 x).1 h; exact ⟨j, by omega, e⟩
      · by_cases q : j = m
        · subst q
          unfold Go.Lib.keeps at hk
          rw [decide_eq_false_iff_not] at hk
          have hk1 : ¬ j = 0 := fun q => hk (Or.inl q)
          have hk2 : d[j]! = d[j - 1]! := Decidable.byContradiction fun q => hk (Or.inr q)
          exact (h2 x).2 ⟨j - 1, by omega, by rw [← hk2]; exact e⟩
        · exact (h2 x).2 ⟨j, by omega, e⟩

theorem srt_rises (ss : List Int) : ∀ i j, i ≤ j → j < (srt ss).toArray.size → (srt ss).toArray[i]! ≤ (srt ss).toArray[j]! := by
  intro i j hij hj
  have hs : (srt ss).Pairwise (fun x y => decide (x ≤ y) = true) := List.pairwise_mergeSort (fun a b c h1 h2 => by simp at *; omega) (fun a b => by simp; omega) ss
  have hj' : j < (srt ss).length := by simpa using hj
  rw [getElem!_pos _ i (by simpa using (show i < (srt ss).length by omega)), getElem!_pos _ j hj]
  by_cases e : i = j
  · subst e; exact Int.le_refl _
  · have := List.pairwise_iff_getElem.1 hs i j (by omega) hj' (by omega)
    simpa using this

/-- Sorted places rise, and are just the places of the keys that there are. -/
theorem ksorted_rises (z : Nat → Nat → Int) (n : Nat) : (ksorted z n).Pairwise (· < ·) := (cu_sorted _ (srt_rises (plN z n)) _ (by simp)).1
theorem ksorted_iff (z : Nat → Nat → Int) (n : Nat) (p : Int) : p ∈ ksorted z n ↔ p ∈ plN z n := by
  have h := (cu_sorted _ (srt_rises (plN z n)) (srt (plN z n)).length (by simp)).2 p
  show p ∈ Go.Lib.compactUpTo _ _ ↔ _
  rw [h]
  constructor
  · rintro ⟨j, hj, e⟩
    rw [getElem!_pos _ j (by simpa using hj)] at e
    rw [← e]
    exact List.mem_mergeSort.1 (List.getElem_mem (l := srt (plN z n)) hj)
  · intro hp
    obtain ⟨j, hj, e⟩ := List.getElem_of_mem (List.mem_mergeSort.2 hp : p ∈ srt (plN z n))
    exact ⟨j, hj, by rw [getElem!_pos _ j (by simpa using hj)]; simpa using e⟩
theorem plN_iff (z : Nat → Nat → Int) (n : Nat) (p : Int) : p ∈ plN z n ↔ 0 ≤ p ∧ ∃ i, i < n ∧ placeI (z i 0) (z i 1) = p := by
  induction n with
  | zero => simp [plN]
  | succ n ih =>
    rw [plN, List.mem_append, ih]
    constructor
    · rintro (⟨h0, i, hi, e⟩ | h)
      · exact ⟨h0, i, by omega, e⟩
      · split at h
        · rename_i hc
          obtain rfl : p = placeI (z n 0) (z n 1) := by simpa using h
          exact ⟨hc, n, by omega, rfl⟩
        · cases h
    · rintro ⟨h0, i, hi, e⟩
      by_cases q : i = n
      · subst q
        refine Or.inr ?_
        rw [if_pos (by omega)]
        simp [e]
      · exact Or.inl ⟨h0, i, by omega, e⟩
/-- Two rising lists with the same members are the same. -/
theorem rise_eq : ∀ (a b : List Int), a.Pairwise (· < ·) → b.Pairwise (· < ·) → (∀ x, x ∈ a ↔ x ∈ b) → a = b := by
  intro a
  induction a with
  | nil => intro b _ _ h; cases b with
    | nil => rfl
    | cons y b => exact absurd ((h y).2 (by simp)) (by simp)
  | cons x a ih =>
    intro b ha hb h
    cases b with
    | nil => exact absurd ((h x).1 (by simp)) (by simp)
    | cons y b =>
      rw [List.pairwise_cons] at ha hb
      have e : x = y := by
        rcases List.mem_cons.1 ((h x).1 (by simp)) with q | q
        · exact q
        · rcases List.mem_cons.1 ((h y).2 (by simp)) with r | r
          · exact r.symm
          · have := ha.1 y r; have := hb.1 x q; omega
      subst e
      congr 1
      refine ih b ha.2 hb.2 fun t => ⟨fun ht => ?_, fun ht => ?_⟩
      · rcases List.mem_cons.1 ((h t).1 (List.mem_cons_of_mem _ ht)) with q | q
        · have := ha.1 t ht; omega
        · exact q
      · rcases List.mem_cons.1 ((h t).2 (List.mem_cons_of_mem _ ht)) with q | q
        · have := hb.1 t ht; omega
        · exact q

/-- The same places in whatever order sort to the same. -/
theorem ksorted_perm {z z' : Nat → Nat → Int} {n n' : Nat} (h : ∀ p, 0 ≤ p → ((∃ i, i < n ∧ placeI (z i 0) (z i 1) = p) ↔ ∃ i, i < n' ∧ placeI (z' i 0) (z' i 1) = p)) : ksorted z n = ksorted z' n' :=
  rise_eq _ _ (ksorted_rises z n) (ksorted_rises z' n') fun p => by
    rw [ksorted_iff, ksorted_iff, plN_iff, plN_iff]
    exact ⟨fun ⟨h0, q⟩ => ⟨h0, (h p h0).1 q⟩, fun ⟨h0, q⟩ => ⟨h0, (h p h0).2 q⟩⟩
theorem k_place_lt (k m : Int) (h : 0 ≤ placeI k m) : placeI k m < 55 := by
  obtain ⟨h1, h2, h3, h4, h5⟩ := place_range k m h
  have hk : k = 1 ∨ k = 2 ∨ k = 3 ∨ k = 4 ∨ k = 5 ∨ k = 6 ∨ k = 7 ∨ k = 8 ∨ k = 9 ∨ k = 10 ∨ k = 11 ∨ k = 12 := by omega
  have hh : aheadI k + manyI k ≤ 55 := by
    rcases hk with rfl | rfl | rfl | rfl | rfl | rfl | rfl | rfl | rfl | rfl | rfl | rfl <;> decide
  omega
theorem ksorted_lt (z : Nat → Nat → Int) (n : Nat) (p : Int) (h : p ∈ ksorted z n) : 0 ≤ p ∧ p < 55 := by
  rw [ksorted_iff, plN_iff] at h
  obtain ⟨h0, i, _, rfl⟩ := h
  exact ⟨h0, k_place_lt _ _ h0⟩
/-- A key that a place tells has that place. -/
theorem place_of_at (p : Int) (h0 : 0 ≤ p) (h1 : p < 55) : placeI ((atK p).getD (0, 0)).1 ((atK p).getD (0, 0)).2 = p := by
  obtain ⟨q, rfl⟩ := Int.eq_ofNat_of_zero_le h0
  exact (k_row_at q (by omega)).2
/-- Sorted again it is the same. -/
theorem ksorted_again (ps : List Int) (hr : ps.Pairwise (· < ·)) (hp : ∀ p ∈ ps, 0 ≤ p ∧ p < 55) (z : Nat → Nat → Int) (hz : ∀ i (h : i < ps.length), placeI (z i 0) (z i 1) = ps[i]) : ksorted z ps.length = ps :=
  rise_eq _ _ (ksorted_rises z _) hr fun p => by
    rw [ksorted_iff, plN_iff]
    constructor
    · rintro ⟨h0, i, hi, e⟩
      rw [hz i hi] at e
      rw [← e]; exact List.getElem_mem hi
    · intro hm
      obtain ⟨i, hi, e⟩ := List.getElem_of_mem hm
      exact ⟨(hp p hm).1, i, hi, by rw [hz i hi]; exact e⟩
end Go.Proofs.YtfcgkjbifnhjjaaGreatDoor.St

namespace Go.Proofs.YtfcgkjbifnhjjaaGreatDoor.St
open Go.RowKit
set_option linter.unusedVariables false

def ml : List Int := [1, 1, 1, 8, 1, 12, 1, 4, 1, 16, 1, 8]
def mlA : Array Value := #[.int .i64 1, .int .i64 1, .int .i64 1, .int .i64 8, .int .i64 1, .int .i64 12, .int .i64 1, .int .i64 4, .int .i64 1, .int .i64 16, .int .i64 1, .int .i64 8]
theorem upto12 {p : Nat → Prop} (h : p 0 ∧ p 1 ∧ p 2 ∧ p 3 ∧ p 4 ∧ p 5 ∧ p 6 ∧ p 7 ∧ p 8 ∧ p 9 ∧ p 10 ∧ p 11) : ∀ n, n < 12 → p n := by
  intro n hn
  obtain ⟨h0, h1, h2, h3, h4, h5, h6, h7, h8, h9, h10, h11⟩ := h
  have : n = 0 ∨ n = 1 ∨ n = 2 ∨ n = 3 ∨ n = 4 ∨ n = 5 ∨ n = 6 ∨ n = 7 ∨ n = 8 ∨ n = 9 ∨ n = 10 ∨ n = 11 := by omega
  rcases this with rfl | rfl | rfl | rfl | rfl | rfl | rfl | rfl | rfl | rfl | rfl | rfl <;> assumption
theorem ml_cell (j : Nat) (h : j < 12) : mlA[j]? = some (.int .i64 (ml.getD j 0)) := by
  revert h; revert j; apply upto12; exact ⟨rfl, rfl, rfl, rfl, rfl, rfl, rfl, rfl, rfl, rfl, rfl, rfl⟩
theorem ml_many (j : Nat) (h : j < 12) : manyI ((j : Int) + 1) = ml.getD j 0 := by
  revert h; revert j; apply upto12; exact ⟨by decide, by decide, by decide, by decide, by decide, by decide, by decide, by decide, by decide, by decide, by decide, by decide⟩
theorem ml_pos (j : Nat) (h : j < 12) : 1 ≤ ml.getD j 0 ∧ ml.getD j 0 ≤ 16 := by
  revert h; revert j; apply upto12; exact ⟨by decide, by decide, by decide, by decide, by decide, by decide, by decide, by decide, by decide, by decide, by decide, by decide⟩
/-- The sum of the first ones. -/
def mlS : Nat → Int
  | 0 => 0
  | n + 1 => mlS n + ml.getD n 0
theorem mlS_bounds (n : Nat) (h : n ≤ 12) : 0 ≤ mlS n ∧ mlS n ≤ 16 * n := by
  induction n with
  | zero => exact ⟨by decide, by decide⟩
  | succ n ih =>
    have := ih (by omega)
    have := ml_pos n (by omega)
    rw [mlS]; omega
theorem kind_at (j : Nat) (h : j < 12) (i : Int) (h0 : 0 ≤ i) (h1 : i < ml.getD j 0) : placeI ((j : Int) + 1) i = aheadI ((j : Int) + 1) + i := by
  unfold placeI; rw [ml_many j h, if_neg (by omega)]
theorem kind_out (j : Nat) (h : j < 12) (i : Int) (h0 : i < 0 ∨ ml.getD j 0 ≤ i) : placeI ((j : Int) + 1) i = -1 := by
  unfold placeI; rw [ml_many j h, if_pos (by omega)]
theorem kind_none (k : Int) (h : k < 1 ∨ 12 < k) : placeI k 0 = -1 := by
  unfold placeI manyI
  rw [if_pos]
  right
  rw [if_neg (by omega), if_neg (by omega), if_neg (by omega), if_neg (by omega), if_pos h]
  exact Int.le_refl _

theorem blk_kept {W W' : World} {b : Nat} {o : Obj} (h : blk W b = some o) (t : Below W.heap.size W W') : blk W' b = some o := heap_kept t h

attribute [local irreducible] Int.lt Int.le
end Go.Proofs.YtfcgkjbifnhjjaaGreatDoor.St

namespace Go.Proofs.YtfcgkjbifnhjjaaGreatDoor.St
open Go.RowKit
set_option linter.unusedVariables false

/-- A slice of n keys, as the numbers at its cells. -/
def KR (W : World) (a : Option Addr) (n : Nat) (z : Nat → Int × Int) : Prop := ∀ i, i < n → ∃ x, a = some x ∧ W.cell? (x.add (i * 2)) = some (.int .i64 (z i).1) ∧ W.cell? ⟨(x.add (i * 2)).block, (x.add (i * 2)).off + 1, none⟩ = some (.int .i64 (z i).2)
theorem KR.below {W W' : World} {a : Option Addr} {n : Nat} {z : Nat → Int × Int} (h : KR W a n z) (hb : Below W.heap.size W W') : KR W' a n z := fun i hi => by
  obtain ⟨x, e, c0, c1⟩ := h i hi
  exact ⟨x, e, (hb.cell (cell_block_lt c0)).trans c0, (hb.cell (cell_block_lt c1)).trans c1⟩
/-- Is a key among the first n? -/
def kHas (z : Nat → Int × Int) (n : Nat) (k : Int × Int) : Prop := ∃ i, i < n ∧ z i = k
instance (z : Nat → Int × Int) (n : Nat) (k : Int × Int) : Decidable (kHas z n k) := by unfold kHas; exact inferInstance

attribute [local irreducible] Int.lt Int.le
/-- What the function literal of key.Within asks of a key: it is there, and is none of b. -/
def kLacks (z : Nat → Int × Int) (n : Nat) (k m : Int) : Bool := decide (0 ≤ placeI k m) && !decide (kHas z n (k, m))

/-- key.Within: every key of a that is there is one of b. -/
def kWithin (y : Nat → Int × Int) (l : Nat) (z : Nat → Int × Int) (n : Nat) : Prop := ∀ i, i < l → kLacks z n (y i).1 (y i).2 = false
end Go.Proofs.YtfcgkjbifnhjjaaGreatDoor.St

namespace Go.Proofs.YtfcgkjbifnhjjaaGreatDoor.St
open Go.RowKit
set_option linter.unusedVariables false

theorem same_kr {W : World} {a b : Option Addr} {n : Nat} {z : Nat → Int × Int} (ha : KR W a n z) (hb : KR W b n z) : ∀ i, i < n → ∃ x y A C, a = some x ∧ b = some y ∧ W.cell? (x.add (i * 2)) = some (.int .i64 A) ∧ W.cell? ⟨(x.add (i * 2)).block, (x.add (i * 2)).off + 1, none⟩ = some (.int .i64 C) ∧ W.cell? (y.add (i * 2)) = some (.int .i64 A) ∧ W.cell? ⟨(y.add (i * 2)).block, (y.add (i * 2)).off + 1, none⟩ = some (.int .i64 C) := fun i hi => by
  obtain ⟨x, e, c0, c1⟩ := ha i hi
  obtain ⟨y, f, d0, d1⟩ := hb i hi
  exact ⟨x, y, _, _, e, f, c0, c1, d0, d1⟩

attribute [local irreducible] Int.lt Int.le
end Go.Proofs.YtfcgkjbifnhjjaaGreatDoor.St

namespace Go.Proofs.YtfcgkjbifnhjjaaGreatDoor.St
open Go.RowKit
set_option linter.unusedVariables false

theorem sizes_any (w : World) : Calls Tryz.prog 82 #[] w fun e w' => ∃ B, e = .returned (.slice (some ⟨B, 0, none⟩) 12 12) ∧ blk w' B = some (.cells mlA 3 (0, 0)) ∧ Below w.heap.size w w' := by
  go_enter Tryz.func82, Tryz.ntmps82
  go_wp2_with fail
  go_ret
  exact ⟨w.heap.size, rfl, blk_alloc_at _ _ _ rfl, (Below.refl _ _).alloc (Nat.le_refl _) _⟩

attribute [local irreducible] Int.lt Int.le
set_option maxRecDepth 100000 in
theorem rall_any (w : World) : Calls Tryz.prog 48 #[] w fun e w' => e = .returned (.int .i64 55) ∧ Below w.heap.size w w' := by
  go_enter Tryz.func48, Tryz.ntmps48
  go_wp2_with fail
  refine (sizes_any _).mono ?_; rintro e W1 ⟨B, rfl, k1, u1⟩
  have hc : ∀ j, j < 12 → W1.cell? ⟨B, j, none⟩ = some (.int .i64 (ml.getD j 0)) := fun j hj => (cell_of_row W1 B j _ _ _ k1).trans (ml_cell j hj)
  clear k1
  go_wp2_with fail
  go_loop [1, 6] (fun s k => ∃ n : Nat, n ≤ 12 ∧ k = .int .i64 (n : Int) ∧ s = .int .i64 (mlS n)) (fun _ k => 12 - (intOf k).toNat)
  case atStart => exact ⟨0, by omega, rfl, rfl⟩
  case round =>
    obtain ⟨n, n1, rfl, rfl⟩ := hrel
    have hb := mlS_bounds n n1
    by_cases hn : n < 12
    · have l1 : (n : Int) < 12 := by omega
      have l0 : (0 : Int) ≤ (n : Int) := by omega
      have hp := ml_pos n hn
      have c5 := hc n hn
      have hs : mlS (n + 1) = mlS n + ml.getD n 0 := rfl
      have Hs := Lib.hid hs
      clear hs hc
      generalize ml.getD n 0 = Q at *
      go_wp2_with fail
      exact ⟨⟨n + 1, by omega, by go_num, by rw [Hs.out]⟩, by simp [intOf]; omega⟩
    · obtain rfl : n = 12 := by omega
      have e55 : mlS 12 = 55 := by decide
      rw [e55]
      clear hb e55 hc
      go_wp2_with fail
      go_ret
      exact ⟨rfl, u1⟩

theorem ml_sum (n : Nat) (h : n ≤ 12) : mlS n = aheadI ((n : Int) + 1) := by
  have : n = 0 ∨ n = 1 ∨ n = 2 ∨ n = 3 ∨ n = 4 ∨ n = 5 ∨ n = 6 ∨ n = 7 ∨ n = 8 ∨ n = 9 ∨ n = 10 ∨ n = 11 ∨ n = 12 := by omega
  rcases this with rfl | rfl | rfl | rfl | rfl | rfl | rfl | rfl | rfl | rfl | rfl | rfl | rfl <;> decide
theorem kind_none' (k n : Int) (h : k < 1 ∨ 12 < k) : placeI k n = -1 := by
  unfold placeI
  rw [if_pos]
  by_cases hn : n < 0
  · exact Or.inl hn
  · right
    unfold manyI
    rw [if_neg (by omega), if_neg (by omega), if_neg (by omega), if_neg (by omega), if_pos h]
    omega

set_option maxRecDepth 100000 in
theorem rplace_any (k m : Int) (hk : k ≤ 9223372036854775807) (w : World) : Calls Tryz.prog 70 #[.agg #[.int .i64 k, .int .i64 m]] w fun e w' => e = .returned (.int .i64 (placeI k m)) ∧ Below w.heap.size w w' := by
  go_enter Tryz.func70, Tryz.ntmps70
  go_wp2_with fail
  have k0 : blk (w.alloc (Obj.cells #[Value.int IntKind.i64 k, Value.int IntKind.i64 m] 57)) w.heap.size = some (.cells #[.int .i64 k, .int .i64 m] 57 (0, 0)) := blk_alloc_at _ _ _ rfl
  have u0 : Below w.heap.size w (w.alloc (Obj.cells #[Value.int IntKind.i64 k, Value.int IntKind.i64 m] 57)) := (Below.refl _ _).alloc (Nat.le_refl _) _
  generalize w.alloc (Obj.cells #[Value.int IntKind.i64 k, Value.int IntKind.i64 m] 57) = W0 at *
  obtain ⟨G, hG⟩ : ∃ G, G = w.heap.size := ⟨_, rfl⟩
  rw [← hG] at k0
  simp only [← hG]
  refine (sizes_any _).mono ?_; rintro e W1 ⟨B, rfl, k1, u1⟩
  have k01 := blk_kept k0 u1
  have g0 := cell_of_row W1 G 0 _ _ _ k01
  have g1 := cell_of_row W1 G 1 _ _ _ k01
  simp at g0 g1
  have bel2 := u0.trans (u1.mono u0.size)
  have hc : ∀ j, j < 12 → W1.cell? ⟨B, j, none⟩ = some (.int .i64 (ml.getD j 0)) := fun j hj => (cell_of_row W1 B j _ _ _ k1).trans (ml_cell j hj)
  clear k1 k0 k01 u0 u1 hG
  go_wp2_with fail
  go_loop [3, 8] (fun s i => ∃ n : Nat, n ≤ 12 ∧ i = .int .i64 (n : Int) ∧ s = .int .i64 (mlS n) ∧ (k < 1 ∨ (n : Int) < k)) (fun _ i => 12 - (intOf i).toNat)
  case atStart => exact ⟨0, by omega, rfl, rfl, by omega⟩
  case round =>
    obtain ⟨n, n1, rfl, rfl, hrel⟩ := hrel
    have hb := mlS_bounds n n1
    by_cases hn : n < 12
    · have l1 : (n : Int) < 12 := by omega
      have l0 : (0 : Int) ≤ (n : Int) := by omega
      have hp := ml_pos n hn
      have c5 := hc n hn
      by_cases he : k = (n : Int) + 1
      · have hpl : (m < 0 ∧ placeI k m = -1) ∨ (¬ m < 0 ∧ ml.getD n 0 ≤ m ∧ placeI k m = -1) ∨ (¬ m < 0 ∧ ¬ ml.getD n 0 ≤ m ∧ placeI k m = mlS n + m) := by
          rw [he]
          by_cases a : m < 0
          · exact Or.inl ⟨a, kind_out n hn m (Or.inl a)⟩
          · by_cases b : ml.getD n 0 ≤ m
            · exact Or.inr (Or.inl ⟨a, b, kind_out n hn m (Or.inr b)⟩)
            · exact Or.inr (Or.inr ⟨a, b, by rw [kind_at n hn m (by omega) (by omega), ml_sum n n1]⟩)
        clear hc hrel
        subst he
        generalize ml.getD n 0 = Q at *
        generalize mlS n = T at *
        rcases hpl with ⟨a, hr⟩ | ⟨a, b, hr⟩ | ⟨a, b, hr⟩
        all_goals
          have Hr := Lib.hid hr
          clear hr
          go_wp2_with fail
          go_ret
          exact ⟨by rw [Hr.out]; rfl, bel2⟩
      · have hs : mlS (n + 1) = mlS n + ml.getD n 0 := rfl
        have Hs := Lib.hid hs
        have hrel2 : k < 1 ∨ ((n + 1 : Nat) : Int) < k := by omega
        have n7 : (k == (n : Int) + 1) = false := beq_eq_false_iff_ne.2 he
        clear hs hc hrel
        generalize ml.getD n 0 = Q at *
        go_wp2_with fail
        exact ⟨⟨n + 1, by omega, by go_num, by rw [Hs.out], hrel2⟩, by simp [intOf]; omega⟩
    · obtain rfl : n = 12 := by omega
      have hpl := kind_none' k m (by omega)
      have Hr := Lib.hid hpl
      clear hc hb hpl hrel
      go_wp2_with fail
      go_ret
      exact ⟨by rw [Hr.out]; rfl, bel2⟩

/-- What the document says stands at a place: the same. -/
theorem sum_at (p : Int) (n : Nat) (hn : n < 12) (h0 : 0 ≤ p) (h1 : mlS n ≤ p) : atF (12 - n) (p - mlS n) = if p < mlS n + ml.getD n 0 then some ((n : Int) + 1, p - mlS n) else atF (12 - (n + 1)) (p - mlS (n + 1)) := by
  have hm := ml_many n hn
  by_cases h : p < mlS n + ml.getD n 0
  · rw [if_pos h]
    have := atF_hit (n + 1) (p - mlS n) (by omega) (by omega) (by rw [show ((n + 1 : Nat) : Int) = (n : Int) + 1 by omega, hm]; omega)
    rw [show 13 - (n + 1) = 12 - n by omega] at this
    rw [this]
    congr 1
  · rw [if_neg h]
    have := atF_past (n + 1) (p - mlS n) (by omega) (by omega) (by rw [show ((n + 1 : Nat) : Int) = (n : Int) + 1 by omega, hm]; omega)
    rw [show 13 - (n + 1) = 12 - n by omega, show 13 - (n + 1 + 1) = 12 - (n + 1) by omega, show ((n + 1 : Nat) : Int) = (n : Int) + 1 by omega, hm] at this
    rw [this, mlS]
    congr 1
    omega

set_option maxRecDepth 100000 in
theorem rat_any (p : Int) (hp1 : -9223372036854775808 ≤ p) (hp2 : p ≤ 9223372036854775807) (w : World) : Calls Tryz.prog 49 #[.int .i64 p] w fun e w' => e = .returned (.tuple #[atV p, .bool (atK p).isSome]) ∧ Below w.heap.size w w' := by
  go_enter Tryz.func49, Tryz.ntmps49
  go_wp2_with fail
  have k0 : blk (w.alloc (Obj.cells #[Value.int IntKind.i64 0, Value.int IntKind.i64 0] 57)) w.heap.size = some (.cells #[.int .i64 0, .int .i64 0] 57 (0, 0)) := blk_alloc_at _ _ _ rfl
  have bel0 : Below w.heap.size w (w.alloc (Obj.cells #[Value.int IntKind.i64 0, Value.int IntKind.i64 0] 57)) := (Below.refl _ _).alloc (Nat.le_refl _) _
  generalize w.alloc (Obj.cells #[Value.int IntKind.i64 0, Value.int IntKind.i64 0] 57) = W0 at *
  obtain ⟨G, hG⟩ : ∃ G, G = w.heap.size := ⟨_, rfl⟩
  rw [← hG] at k0
  simp only [← hG]
  have gG : w.heap.size ≤ G := by omega
  refine (sizes_any _).mono ?_; rintro e W1 ⟨B, rfl, k1, u1⟩
  have k01 := blk_kept k0 u1
  have bel2 := bel0.trans (u1.mono bel0.size)
  have hc : ∀ j, j < 12 → W1.cell? ⟨B, j, none⟩ = some (.int .i64 (ml.getD j 0)) := fun j hj => (cell_of_row W1 B j _ _ _ k1).trans (ml_cell j hj)
  have f0 := frozen_blk k01 0
  have f1 := frozen_blk k01 1
  have g0 := cell_of_row W1 G 0 _ _ _ k01
  have g1 := cell_of_row W1 G 1 _ _ _ k01
  simp at g0 g1
  clear k1 k0 bel0 u1 hG
  go_wp2_with fail
  go_loop [4, 9] (fun s i => ∃ n : Nat, n ≤ 12 ∧ i = .int .i64 (n : Int) ∧ s = .int .i64 (mlS n) ∧ (0 ≤ p → mlS n ≤ p ∧ atK p = atF (12 - n) (p - mlS n))) (fun _ i => 12 - (intOf i).toNat)
  case atStart => exact ⟨0, by omega, rfl, rfl, fun h => ⟨h, by unfold atK; rw [if_neg (by omega)]; simp [mlS]⟩⟩
  case round =>
    obtain ⟨n, n1, rfl, rfl, hrel⟩ := hrel
    have hb := mlS_bounds n n1
    by_cases hn : n < 12
    · have l1 : (n : Int) < 12 := by omega
      have l0 : (0 : Int) ≤ (n : Int) := by omega
      have hp := ml_pos n hn
      have c5 := hc n hn
      have hsa := sum_at p n hn
      have hs : mlS (n + 1) = mlS n + ml.getD n 0 := rfl
      clear hc
      have key : (p < mlS n ∧ p < 0) ∨ (mlS n ≤ p ∧ p < mlS n + ml.getD n 0 ∧ atV p = keyV ((n : Int) + 1) (p - mlS n) ∧ (atK p).isSome = true) ∨ (mlS n ≤ p ∧ ¬ p < mlS n + ml.getD n 0 ∧ atK p = atF (12 - (n + 1)) (p - mlS (n + 1))) := by
        by_cases q0 : 0 ≤ p
        · obtain ⟨r1, r2⟩ := hrel q0
          have := hsa q0 r1
          by_cases q1 : p < mlS n + ml.getD n 0
          · rw [if_pos q1] at this
            refine Or.inr (Or.inl ⟨r1, q1, ?_, ?_⟩)
            · unfold atV; rw [r2, this]; rfl
            · rw [r2, this]; rfl
          · rw [if_neg q1] at this
            exact Or.inr (Or.inr ⟨r1, q1, r2.trans this⟩)
        · by_cases q1 : p < mlS n
          · exact Or.inl ⟨q1, by omega⟩
          · omega
      have Hs := Lib.hid hs
      clear hsa hrel hs
      rcases key with ⟨q1, q2⟩ | ⟨q1, q2, q3, q4⟩ | ⟨q1, q2, q3⟩
      case inl =>
        have hnx : 0 ≤ p → mlS (n + 1) ≤ p ∧ atK p = atF (12 - (n + 1)) (p - mlS (n + 1)) := fun h => absurd h (by omega)
        have Hnx := Lib.hid hnx
        clear hnx
        generalize ml.getD n 0 = Q at *
        generalize mlS n = S0 at *
        go_wp2_with fail
        exact ⟨⟨n + 1, by omega, by go_num, by rw [Hs.out], Hnx.out⟩, by simp [intOf]; omega⟩
      case inr.inl =>
        have HV := Lib.hid q3
        have HS := Lib.hid q4
        clear q3 q4
        generalize ml.getD n 0 = Q at *
        generalize mlS n = S0 at *
        go_wp2_with fail
        have s1 := blk_setCell_same k01 0 (Value.int IntKind.i64 ((n : Int) + 1))
        have s2 := blk_setCell_same s1 1 (Value.int IntKind.i64 (p - S0))
        rw [HV.out, HS.out]
        exact bodyPost_key2 (b := G) (c := #[.int .i64 ((n : Int) + 1), .int .i64 (p - S0)]) rfl rfl rfl s2 rfl ⟨rfl, (bel2.setCell gG _).setCell gG _⟩
      case inr.inr =>
        have hnx : 0 ≤ p → mlS (n + 1) ≤ p ∧ atK p = atF (12 - (n + 1)) (p - mlS (n + 1)) := fun h => ⟨by have := Hs.out; omega, q3⟩
        have Hnx := Lib.hid hnx
        clear hnx q3
        generalize ml.getD n 0 = Q at *
        generalize mlS n = S0 at *
        go_wp2_with fail
        exact ⟨⟨n + 1, by omega, by go_num, by rw [Hs.out], Hnx.out⟩, by simp [intOf]; omega⟩
    · obtain rfl : n = 12 := by omega
      have hk : atK p = none := by
        by_cases q0 : 0 ≤ p
        · exact (hrel q0).2
        · unfold atK; rw [if_pos (by omega)]
      have hv : atV p = keyV 0 0 := by unfold atV; rw [hk]; rfl
      have hso : (atK p).isSome = false := by rw [hk]; rfl
      have HV := Lib.hid hv
      have HS := Lib.hid hso
      clear hk hv hso hrel hc hb
      go_wp2_with fail
      have s1 := blk_setCell_same k01 0 (Value.int IntKind.i64 0)
      have s2 := blk_setCell_same s1 1 (Value.int IntKind.i64 0)
      rw [HV.out, HS.out]
      exact bodyPost_key2 (b := G) (c := #[.int .i64 0, .int .i64 0]) rfl rfl rfl s2 rfl ⟨rfl, (bel2.setCell gG _).setCell gG _⟩
end Go.Proofs.YtfcgkjbifnhjjaaGreatDoor.St
