/- The contract of cloisterbook.Roomy of keys. No condition but those written in each statement. -/
import Derived.Test.YtfcgkjbifnhjjaaKeyIn
import Derived.Laws.IdiomCopy
import Derived.OwnWalk
import Derived.Lib.LazyBuf
import Derived.Deep.OwnRows
namespace Go.Proofs.Ytfcgkjbifnhjjaa.St
open Go.RowKit
set_option linter.unusedVariables false

theorem run_copy_wide {P : Program} (w : World) (dT sT ty elem : TypeId) (S m b o dLen dCap : Nat) (a : Addr) (sLen sCap : Nat) (cs : List Value)
    (hu : P.underlying dT = some (.slice elem)) (hs : (P.info? elem).map (·.size) = some S) (hm : Nat.min sLen dLen = m) (hn : cs.length = m * S)
    (hsrc : ∀ j v, cs[j]? = some v → w.cell? (a.add j) = some v) (hc : ∀ j, j < cs.length → (w.cell? ⟨b, o + j, none⟩).isSome = true) (hf : ∀ j, j < cs.length → w.frozen? ⟨b, o + j, none⟩ = false) (h1 : ∀ v ∈ cs, v.oneCell' = true) :
    (Builtin.copy_ #[dT, sT] ty #[.slice (some ⟨b, o, none⟩) dLen dCap, .slice (some a) sLen sCap]).run P w = .ok (goInt m) (w.setCells b o cs) := by
  have hl := run_loadCells_list (P := P) w a cs hsrc
  have hst := run_storeCells_cells (P := P) b o cs 0 w (by simpa using hc) (by simpa using hf) h1
  cases hq : P.info? elem with
  | none => simp [hq] at hs
  | some i =>
    have hi : i.size = S := by simpa [hq] using hs
    simp [Builtin.copy_, run_underlying hu, Builtin.lenOf, Builtin.firstCells, sizeOf, typeInfo, hq, hi, hm, ← hn, hl, hst]
theorem wpList_copy_own2 {P : Program} (w : World) {ops : Array Oper} {rest : List Oper} {o : Oper} {a : Act} {Q : Exit → Act → World → Prop} (hgd : o.guard = none) (d s : Operand) (t t' : TypeId)
    (ho : o.op = .call { callee := .builtin .copy, args := #[d, s], argTypes := #[t, t'] }) (v u : Value) (hd : a.eval d = v) (hs : a.eval s = u) {v' : Value} {w' : World}
    (hr : (Builtin.copy_ #[t, t'] o.type #[v, u]).run P w = .ok v' w') (h : wpList P ops Q rest (a.put o.dst v') w') : wpList P ops Q (o :: rest) a w := by
  refine wpList_plain hgd fun _ hK => ?_
  unfold Oper.wp execOp
  simp only [ho, resolve, invoke, builtin, Sem.run_bind, Sem.run_pure, Result.andThen_ok, List.map_toArray, List.map_cons, List.map_nil, hd, hs, hr]
  exact hK _ _ h

/-- The cells of the first n keys. -/
def kcells (z : Nat → Int × Int) : Nat → List Value
  | 0 => []
  | n + 1 => kcells z n ++ [.int .i64 (z n).1, .int .i64 (z n).2]
theorem kcells_one (z : Nat → Int × Int) (n : Nat) : ∀ v ∈ kcells z n, v.oneCell' = true := by
  induction n with
  | zero => intro v h; cases h
  | succ n ih =>
    intro v h
    rw [kcells, List.mem_append] at h
    rcases h with h | h
    · exact ih v h
    · simp at h; rcases h with rfl | rfl <;> rfl
theorem kcells_len (z : Nat → Int × Int) (n : Nat) : (kcells z n).length = n * 2 := by
  induction n with
  | zero => rfl
  | succ n ih => rw [kcells, List.length_append, ih]; simp; omega

theorem kcells_at (z : Nat → Int × Int) (n : Nat) : ∀ i, i < n → (kcells z n)[i * 2]? = some (.int .i64 (z i).1) ∧ (kcells z n)[i * 2 + 1]? = some (.int .i64 (z i).2) := by
  induction n with
  | zero => intro i h; omega
  | succ n ih =>
    intro i h
    have hl := kcells_len z n
    rw [kcells]
    by_cases e : i = n
    · subst e
      rw [List.getElem?_append_right (by omega), List.getElem?_append_right (by omega), hl]
      simp
    · have := ih i (by omega)
      rw [List.getElem?_append_left (by omega), List.getElem?_append_left (by omega)]
      exact this
theorem kcells_src {W : World} {x : Addr} {n : Nat} {z : Nat → Int × Int} (h : KR W (some x) n z) : ∀ j v, (kcells z n)[j]? = some v → W.cell? (x.add j) = some v := by
  intro j v hj
  have hlen := kcells_len z n
  obtain ⟨hlt, _⟩ := List.getElem?_eq_some_iff.1 hj
  have hi : j / 2 < n := by omega
  obtain ⟨x', e, c0, c1⟩ := h (j / 2) hi
  obtain rfl : x = x' := by simpa using e
  obtain ⟨k0, k1⟩ := kcells_at z n (j / 2) hi
  rcases (show j = j / 2 * 2 ∨ j = j / 2 * 2 + 1 by omega) with q | q
  · rw [q] at hj ⊢
    rw [k0] at hj
    rw [← hj]; exact c0
  · rw [q] at hj ⊢
    rw [k1] at hj
    rw [← hj, add_field x _ 1 (by omega)]; exact c1

/-- What Roomy's row holds when it is filled up to j. -/
def rmF (z : Nat → Int × Int) (n j : Nat) (k m : Int) (i : Nat) : Value := if i < n * 2 then (kcells z n)[i]?.getD default else if i < j * 2 then (if i % 2 = 0 then .int .i64 k else .int .i64 m) else .int .i64 0

attribute [local irreducible] Int.lt Int.le
end Go.Proofs.Ytfcgkjbifnhjjaa.St
