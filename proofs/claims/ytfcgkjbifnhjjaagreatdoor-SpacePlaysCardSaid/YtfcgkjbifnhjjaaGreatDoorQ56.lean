/- The contract of cloisterbook.Roomy of keys. Plain laws for KeySorts: a sorted row's keys, and whether rows hold each other. No condition but those written in each statement. -/
import Derived.Test.YtfcgkjbifnhjjaaGreatDoorQ55
import Derived.Laws.IdiomCopy
import Derived.OwnWalk
import Derived.Lib.LazyBuf
import Derived.Deep.OwnRows
namespace Go.Proofs.YtfcgkjbifnhjjaaGreatDoor.St
open Go.RowKit
set_option linter.unusedVariables false

theorem run_copy_wide {P : Program} (w : World) (dT sT ty elem : TypeId) (S m b o dLen dCap : Nat) (a : Addr) (sLen sCap : Nat) (cs : List Value)
    (hu : P.underlying dT = some (.slice elem)) (hs : (P.info? elem).map (·.size) = some S) (hm : Nat.min sLen dLen = m) (hn : cs.length = m * S)
    (hsrc : ∀ j v, cs[j]? = some v → w.cell? (a.add j) = some v) (hc : ∀ j, j < cs.length → (w.cell? ⟨b, o + j, none⟩).isSome = true) (hf : ∀ j, j < cs.length → w.frozen? ⟨b, o + j, none⟩ = false) (h1 : ∀ v ∈ cs, v.oneCell' = true) :
    (Builtin.copy_ #[dT, sT] ty #[.slice (some ⟨b, o, none⟩) dLen dCap, .slice (some a) sLen sCap]).run P w = .ok (goInt m) (w.setCells b o cs) := by
  have hl := run_loadCells_list (P := P) w a cs hsrc
  have hst := run_storeCells_cells (P := P) b o cs 0 w (by simpa using hc) (by simpa using hf) h1
  cases hq : P.info? elem with
  | none => simp [hq] at hs
  | some i =>
    have hi : i.size = S := by simpa [hq] using hs
    simp [Builtin.copy_, run_underlying hu, Builtin.lenOf, Builtin.firstCells, sizeOf, typeInfo, hq, hi, hm, ← hn, hl, hst]
theorem wpList_copy_own2 {P : Program} (w : World) {ops : Array Oper} {rest : List Oper} {o : Oper} {a : Act} {Q : Exit → Act → World → Prop} (hgd : o.guard = none) (d s : Operand) (t t' : TypeId)
    (ho : o.op = .call { callee := .builtin .copy, args := #[d, s], argTypes := #[t, t'] }) (v u : Value) (hd : a.eval d = v) (hs : a.eval s = u) {v' : Value} {w' : World}
    (hr : (Builtin.copy_ #[t, t'] o.type #[v, u]).run P w = .ok v' w') (h : wpList P ops Q rest (a.put o.dst v') w') : wpList P ops Q (o :: rest) a w := by
  refine wpList_plain hgd fun _ hK => ?_
  unfold Oper.wp execOp
  simp only [ho, resolve, invoke, builtin, Sem.run_bind, Sem.run_pure, Result.andThen_ok, List.map_toArray, List.map_cons, List.map_nil, hd, hs, hr]
  exact hK _ _ h

/-- The cells of the first n keys. -/
def kcells (z : Nat → Int × Int) : Nat → List Value
  | 0 => []
  | n + 1 => kcells z n ++ [.int .i64 (z n).1, .int .i64 (z n).2]
theorem kcells_one (z : Nat → Int × Int) (n : Nat) : ∀ v ∈ kcells z n, v.oneCell' = true := by
  induction n with
  | zero => intro v h; cases h
  | succ n ih =>
    intro v h
    rw [kcells, List.mem_append] at h
    rcases h with h | h
    · exact ih v h
    · simp at h; rcases h with rfl | rfl <;> rfl
theorem kcells_len (z : Nat → Int × Int) (n : Nat) : (kcells z n).length = n * 2 := by
  induction n with
  | zero => rfl
  | succ n ih => rw [kcells, List.length_append, ih]; simp; omega

theorem kcells_at (z : Nat → Int × Int) (n : Nat) : ∀ i, i < n → (kcells z n)[i * 2]? = some (.int .i64 (z i).1) ∧ (kcells z n)[i * 2 + 1]? = some (.int .i64 (z i).2) := by
  induction n with
  | zero => intro i h; omega
  | succ n ih =>
    intro i h
    have hl := kcells_len z n
    rw [kcells]
    by_cases e : i = n
    · subst e
      rw [List.getElem?_append_right (by omega), List.getElem?_append_right (by omega), hl]
      simp
    · have := ih i (by omega)
      rw [List.getElem?_append_left (by omega), List.getElem?_append_left (by omega)]
      exact this
theorem kcells_src {W : World} {x : Addr} {n : Nat} {z : Nat → Int × Int} (h : KR W (some x) n z) : ∀ j v, (kcells z n)[j]? = some v → W.cell? (x.add j) = some v := by
  intro j v hj
  have hlen := kcells_len z n
  obtain ⟨hlt, _⟩ := List.getElem?_eq_some_iff.1 hj
  have hi : j / 2 < n := by omega
  obtain ⟨x', e, c0, c1⟩ := h (j / 2) hi
  obtain rfl : x = x' := by simpa using e
  obtain ⟨k0, k1⟩ := kcells_at z n (j / 2) hi
  rcases (show j = j / 2 * 2 ∨ j = j / 2 * 2 + 1 by omega) with q | q
  · rw [q] at hj ⊢
    rw [k0] at hj
    rw [← hj]; exact c0
  · rw [q] at hj ⊢
    rw [k1] at hj
    rw [← hj, add_field x _ 1 (by omega)]; exact c1

/-- What Roomy's row holds when it is filled up to j. -/
def rmF (z : Nat → Int × Int) (n j : Nat) (k m : Int) (i : Nat) : Value := if i < n * 2 then (kcells z n)[i]?.getD default else if i < j * 2 then (if i % 2 = 0 then .int .i64 k else .int .i64 m) else .int .i64 0

attribute [local irreducible] Int.lt Int.le
end Go.Proofs.YtfcgkjbifnhjjaaGreatDoor.St

namespace Go.Proofs.YtfcgkjbifnhjjaaGreatDoor.St
open Go.RowKit
set_option linter.unusedVariables false

/-- The keys of places; keys as two numbers each. -/
def sk (ps : List Int) (i : Nat) : Int × Int := (atK (ps.getD i 0)).getD (0, 0)
def zz (z : Nat → Int × Int) : Nat → Nat → Int := fun i j => if j = 0 then (z i).1 else (z i).2
def kS (z : Nat → Int × Int) (n : Nat) : List Int := ksorted (zz z) n
theorem key_at : ∀ k m : Nat, k < 13 → m < 17 → 0 ≤ placeI (k : Int) (m : Int) → (atK (placeI (k : Int) (m : Int))).getD (0, 0) = ((k : Int), (m : Int)) := by
  have h : ∀ k : Nat, k < 13 → ∀ m : Nat, m < 17 → 0 ≤ placeI (k : Int) (m : Int) → (atK (placeI (k : Int) (m : Int))).getD (0, 0) = ((k : Int), (m : Int)) := by decide +kernel
  exact fun k m h1 h2 => h k h1 m h2
theorem key_of_place (k m : Int) (h : 0 ≤ placeI k m) : (atK (placeI k m)).getD (0, 0) = (k, m) := by
  obtain ⟨h1, h2, h3, h4, _⟩ := place_range k m h
  have h5 := (many_bounds k).2
  obtain ⟨K, rfl⟩ := Int.eq_ofNat_of_zero_le (show 0 ≤ k by omega)
  obtain ⟨M, rfl⟩ := Int.eq_ofNat_of_zero_le h1
  exact key_at K M (by omega) (by omega) h
theorem sk_get (ps : List Int) (i : Nat) (h : i < ps.length) : sk ps i = (atK ps[i]).getD (0, 0) := by
  unfold sk; rw [List.getD_eq_getElem?_getD, List.getElem?_eq_getElem h]; rfl
theorem flat_take (ps : List Int) : ∀ n, n ≤ ps.length → flat (ps.take n) = kcells (sk ps) n
  | 0, _ => rfl
  | n + 1, h => by
    have ih := flat_take ps n (by omega)
    have hs := sk_get ps n (by omega)
    rw [List.take_succ_eq_append_getElem (by omega), flat_app, ih, kcells]
    congr 1
    rw [hs]
    simp [flat, kcs]
theorem flat_sk (ps : List Int) : flat ps = kcells (sk ps) ps.length := by
  have := flat_take ps ps.length (Nat.le_refl _)
  rwa [List.take_length] at this
theorem sk_place (ps : List Int) (hp : ∀ p ∈ ps, 0 ≤ p ∧ p < 55) (i : Nat) (h : i < ps.length) : placeI (sk ps i).1 (sk ps i).2 = ps[i] := by
  obtain ⟨h0, h1⟩ := hp ps[i] (List.getElem_mem h)
  rw [sk_get ps i h]
  exact place_of_at _ h0 h1
/-- What is sorted rises. -/
theorem kS_rises (z : Nat → Int × Int) (n : Nat) : (kS z n).Pairwise (· < ·) := ksorted_rises _ _
theorem kS_lt (z : Nat → Int × Int) (n : Nat) : ∀ p ∈ kS z n, 0 ≤ p ∧ p < 55 := fun p h => ksorted_lt _ _ p h
theorem kS_iff (z : Nat → Int × Int) (n : Nat) (p : Int) : p ∈ kS z n ↔ 0 ≤ p ∧ ∃ i, i < n ∧ placeI (z i).1 (z i).2 = p := by
  unfold kS
  rw [ksorted_iff, plN_iff]
  rfl
/-- Each that was sorted was there. -/
theorem kS_from (z : Nat → Int × Int) (n : Nat) (i : Nat) (h : i < (kS z n).length) : kHas z n (sk (kS z n) i) := by
  obtain ⟨h0, j, hj, e⟩ := (kS_iff z n _).1 (List.getElem_mem h)
  refine ⟨j, hj, ?_⟩
  rw [sk_get _ i h, ← e, key_of_place _ _ (by rw [e]; exact h0)]
/-- Each that there is stands there. -/
theorem kS_has (z : Nat → Int × Int) (n : Nat) (i : Nat) (h : i < n) (hp : 0 ≤ placeI (z i).1 (z i).2) : kHas (sk (kS z n)) (kS z n).length (z i) := by
  have hm := (kS_iff z n (placeI (z i).1 (z i).2)).2 ⟨hp, i, h, rfl⟩
  obtain ⟨j, hj, e⟩ := List.getElem_of_mem hm
  refine ⟨j, hj, ?_⟩
  rw [sk_get _ j hj, e, key_of_place _ _ hp]
theorem lacks_no {z : Nat → Int × Int} {n : Nat} {k : Int × Int} (h : kHas z n k) : kLacks z n k.1 k.2 = false := by
  unfold kLacks
  rw [show decide (kHas z n (k.1, k.2)) = true from decide_eq_true h]
  simp
theorem lacks_out {z : Nat → Int × Int} {n : Nat} {k m : Int} (h : ¬ 0 ≤ placeI k m) : kLacks z n k m = false := by
  unfold kLacks
  rw [decide_eq_false h]; rfl
theorem within_s_own (z : Nat → Int × Int) (n : Nat) : kWithin (sk (kS z n)) (kS z n).length z n := fun i hi => lacks_no (kS_from z n i hi)
theorem within_own_s (z : Nat → Int × Int) (n : Nat) : kWithin z n (sk (kS z n)) (kS z n).length := fun i hi => by
  by_cases hp : 0 ≤ placeI (z i).1 (z i).2
  · exact lacks_no (kS_has z n i hi hp)
  · exact lacks_out hp
/-- In a rising row each key stands once. -/
theorem sk_inj (ps : List Int) (hr : ps.Pairwise (· < ·)) (hp : ∀ p ∈ ps, 0 ≤ p ∧ p < 55) (i j : Nat) (hi : i < ps.length) (hj : j < ps.length) (h : sk ps i = sk ps j) : i = j := by
  have e1 := sk_place ps hp i hi
  have e2 := sk_place ps hp j hj
  rw [h, e2] at e1
  rcases Nat.lt_trichotomy i j with q | q | q
  · have := List.pairwise_iff_getElem.1 hr i j hi hj q; omega
  · exact q
  · have := List.pairwise_iff_getElem.1 hr j i hj hi q; omega
/-- The row without its i-th. -/
def lessF (f : Nat → Int × Int) (i : Nat) : Nat → Int × Int := fun j => if j < i then f j else f (j + 1)
theorem less_not (ps : List Int) (hr : ps.Pairwise (· < ·)) (hp : ∀ p ∈ ps, 0 ≤ p ∧ p < 55) (i : Nat) (hi : i < ps.length) : ¬ kWithin (sk ps) ps.length (lessF (sk ps) i) (ps.length - 1) := by
  intro h
  have h1 := h i hi
  unfold kLacks at h1
  have h0 : 0 ≤ placeI (sk ps i).1 (sk ps i).2 := by rw [sk_place ps hp i hi]; exact (hp _ (List.getElem_mem hi)).1
  rw [decide_eq_true h0, Bool.true_and] at h1
  have h2 : kHas (lessF (sk ps) i) (ps.length - 1) ((sk ps i).1, (sk ps i).2) := by simpa using h1
  obtain ⟨j, hj, e⟩ := h2
  unfold lessF at e
  by_cases q : j < i
  · rw [if_pos q] at e
    have := sk_inj ps hr hp j i (by omega) hi e
    omega
  · rw [if_neg q] at e
    have := sk_inj ps hr hp (j + 1) i (by omega) hi e
    omega
theorem less_in (f : Nat → Int × Int) (n i : Nat) (hi : i < n) : kWithin (lessF f i) (n - 1) f n := fun j hj => by
  refine lacks_no ?_
  unfold lessF
  by_cases q : j < i
  · rw [if_pos q]; exact ⟨j, by omega, rfl⟩
  · rw [if_neg q]; exact ⟨j + 1, by omega, rfl⟩
/-- Sorted again. -/
theorem kS_again (z : Nat → Int × Int) (n : Nat) : kS (sk (kS z n)) (kS z n).length = kS z n := by
  refine ksorted_again _ (kS_rises z n) (kS_lt z n) (zz (sk (kS z n))) fun i hi => ?_
  exact sk_place _ (kS_lt z n) i hi
/-- Of another order. -/
def revF (z : Nat → Int × Int) (n : Nat) : Nat → Int × Int := fun i => z (n - 1 - i)
theorem kS_back (z : Nat → Int × Int) (n : Nat) : kS (revF z n) n = kS z n := by
  refine ksorted_perm fun p _ => ⟨?_, ?_⟩
  · rintro ⟨i, hi, e⟩
    exact ⟨n - 1 - i, by omega, e⟩
  · rintro ⟨i, hi, e⟩
    refine ⟨n - 1 - i, by omega, ?_⟩
    show placeI (z (n - 1 - (n - 1 - i))).1 (z (n - 1 - (n - 1 - i))).2 = p
    rw [show n - 1 - (n - 1 - i) = i by omega]
    exact e
/-- So many exchanged, from both ends. -/
def swapF (z : Nat → Int × Int) (n j : Nat) : Nat → Int × Int := fun i => if i < j ∨ n - 1 - i < j then z (n - 1 - i) else z i
theorem swapF_zero (z : Nat → Int × Int) (n i : Nat) : swapF z n 0 i = z i := by unfold swapF; rw [if_neg (by omega)]
theorem swapF_end (z : Nat → Int × Int) (n j i : Nat) (hi : i < n) (hj : n ≤ 2 * j + 1) : swapF z n j i = revF z n i := by
  unfold swapF revF
  by_cases q : i < j ∨ n - 1 - i < j
  · rw [if_pos q]
  · rw [if_neg q]
    congr 1
    omega
theorem swapF_step (z : Nat → Int × Int) (n j : Nat) (hj : 2 * j + 1 < n) (i : Nat) (hi : i < n) : swapF z n (j + 1) i = if i = j then swapF z n j (n - 1 - j) else if i = n - 1 - j then swapF z n j j else swapF z n j i := by
  unfold swapF
  by_cases e1 : i = j
  · subst e1
    rw [if_pos rfl, if_pos (by omega), if_neg (by omega)]
  · rw [if_neg e1]
    by_cases e2 : i = n - 1 - j
    · subst e2
      rw [if_pos rfl, if_pos (by omega), if_neg (by omega)]
      congr 1
      omega
    · rw [if_neg e2]
      by_cases q : i < j ∨ n - 1 - i < j
      · rw [if_pos (by omega), if_pos q]
      · rw [if_neg (by omega), if_neg q]
end Go.Proofs.YtfcgkjbifnhjjaaGreatDoor.St
