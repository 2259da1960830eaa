/- The contract of cloisterbook.Roomy of keys. No condition but those written in each statement. -/
import Derived.Test.YtncgppdmfnapiaaKeyIn
import Derived.Laws.IdiomCopy
import Derived.OwnWalk
import Derived.Lib.LazyBuf
import Derived.Deep.OwnRows
namespace Go.Proofs.Ytncgppdmfnapiaa.St
open Go.RowKit
set_option linter.unusedVariables false

theorem run_copy_wide {P : Program} (w : World) (dT sT ty elem : TypeId) (S m b o dLen dCap : Nat) (a : Addr) (sLen sCap : Nat) (cs : List Value)
    (hu : P.underlying dT = some (.slice elem)) (hs : (P.info? elem).map (·.size) = some S) (hm : Nat.min sLen dLen = m) (hn : cs.length = m * S)
    (hsrc : ∀ j v, cs[j]? = some v → w.cell? (a.add j) = some v) (hc : ∀ j, j < cs.length → (w.cell? ⟨b, o + j, none⟩).isSome = true) (hf : ∀ j, j < cs.length → w.frozen? ⟨b, o + j, none⟩ = false) (h1 : ∀ v ∈ cs, v.oneCell' = true) :
    (Builtin.copy_ #[dT, sT] ty #[.slice (some ⟨b, o, none⟩) dLen dCap, .slice (some a) sLen sCap]).run P w = .ok (goInt m) (w.setCells b o cs) := by
  have hl := run_loadCells_list (P := P) w a cs hsrc
  have hst := run_storeCells_cells (P := P) b o cs 0 w (by simpa using hc) (by simpa using hf) h1
  cases hq : P.info? elem with
  | none => simp [hq] at hs
  | some i =>
    have hi : i.size = S := by simpa [hq] using hs
    simp [Builtin.copy_, run_underlying hu, Builtin.lenOf, Builtin.firstCells, sizeOf, typeInfo, hq, hi, hm, ← hn, hl, hst]
theorem wpList_copy_own2 {P : Program} (w : World) {ops : Array Oper} {rest : List Oper} {o : Oper} {a : Act} {Q : Exit → Act → World → Prop} (hgd : o.guard = none) (d s : Operand) (t t' : TypeId)
    (ho : o.op = .call { callee := .builtin .copy, args := #[d, s], argTypes := #[t, t'] }) (v u : Value) (hd : a.eval d = v) (hs : a.eval s = u) {v' : Value} {w' : World}
    (hr : (Builtin.copy_ #[t, t'] o.type #[v, u]).run P w = .ok v' w') (h : wpList P ops Q rest (a.put o.dst v') w') : wpList P ops Q (o :: rest) a w := by
  refine wpList_plain hgd fun _ hK => ?_
  unfold Oper.wp execOp
  simp only [ho, resolve, invoke, builtin, Sem.run_bind, Sem.run_pure, Result.andThen_ok, List.map_toArray, List.map_cons, List.map_nil, hd, hs, hr]
  exact hK _ _ h

/-- The cells of the first n keys. -/
def kcells (z : Nat → Int × Int) : Nat → List Value
  | 0 => []
  | n + 1 => kcells z n ++ [.int .i64 (z n).1, .int .i64 (z n).2]
theorem kcells_one (z : Nat → Int × Int) (n : Nat) : ∀ v ∈ kcells z n, v.oneCell' = true := by
  induction n with
  | zero => intro v h; cases h
  | succ n ih =>
    intro v h
    rw [kcells, List.mem_append] at h
    rcases h with h | h
    · exact ih v h
    · simp at h; rcases h with rfl | rfl <;> rfl
theorem kcells_len (z : Nat → Int × Int) (n : Nat) : (kcells z n).length = n * 2 := by
  induction n with
  | zero => rfl
  | succ n ih => rw [kcells, List.length_append, ih]; simp; omega

theorem kcells_at (z : Nat → Int × Int) (n : Nat) : ∀ i, i < n → (kcells z n)[i * 2]? = some (.int .i64 (z i).1) ∧ (kcells z n)[i * 2 + 1]? = some (.int .i64 (z i).2) := by
  induction n with
  | zero => intro i h; omega
  | succ n ih =>
    intro i h
    have hl := kcells_len z n
    rw [kcells]
    by_cases e : i = n
    · subst e
      rw [List.getElem?_append_right (by omega), List.getElem?_append_right (by omega), hl]
      simp
    · have := ih i (by omega)
      rw [List.getElem?_append_left (by omega), List.getElem?_append_left (by omega)]
      exact this
theorem kcells_src {W : World} {x : Addr} {n : Nat} {z : Nat → Int × Int} (h : KR W (some x) n z) : ∀ j v, (kcells z n)[j]? = some v → W.cell? (x.add j) = some v := by
  intro j v hj
  have hlen := kcells_len z n
  obtain ⟨hlt, _⟩ := List.getElem?_eq_some_iff.1 hj
  have hi : j / 2 < n := by omega
  obtain ⟨x', e, c0, c1⟩ := h (j / 2) hi
  obtain rfl : x = x' := by simpa using e
  obtain ⟨k0, k1⟩ := kcells_at z n (j / 2) hi
  rcases (show j = j / 2 * 2 ∨ j = j / 2 * 2 + 1 by omega) with q | q
  · rw [q] at hj ⊢
    rw [k0] at hj
    rw [← hj]; exact c0
  · rw [q] at hj ⊢
    rw [k1] at hj
    rw [← hj, add_field x _ 1 (by omega)]; exact c1

/-- What Roomy's row holds when it is filled up to j. -/
def rmF (z : Nat → Int × Int) (n j : Nat) (k m : Int) (i : Nat) : Value := if i < n * 2 then (kcells z n)[i]?.getD default else if i < j * 2 then (if i % 2 = 0 then .int .i64 k else .int .i64 m) else .int .i64 0

attribute [local irreducible] Int.lt Int.le
set_option maxRecDepth 100000 in
set_option maxHeartbeats 4000000 in
theorem kroomy_any (x : Addr) (n c : Nat) (z : Nat → Int × Int) (k m : Int) (w : World) (hn : n ≤ 1000000) (ha : KR w (some x) n z) :
    Calls Try.prog 21 #[.slice (some x) n c, .agg #[.int .i64 k, .int .i64 m]] w fun e w' => ∃ g, e = .returned (.slice (some ⟨g, 0, none⟩) (n + 80) (n + 80)) ∧ w.heap.size ≤ g ∧ KR w' (some ⟨g, 0, none⟩) (n + 80) (fun i => if i < n then z i else (k, m)) ∧ Below w.heap.size w w' := by
  obtain ⟨i1, hi, hz0, hz1, hz2⟩ := info_parts info_key
  go_enter Try.func21, Try.ntmps21
  go_upto_region 1 with fail
  have k0 : blk (w.alloc (Obj.cells #[Value.int IntKind.i64 k, Value.int IntKind.i64 m] 23)) w.heap.size = some (.cells #[.int .i64 k, .int .i64 m] 23 (0, 0)) := blk_alloc_at _ _ _ rfl
  have bel0 : Below w.heap.size w (w.alloc (Obj.cells #[Value.int IntKind.i64 k, Value.int IntKind.i64 m] 23)) := (Below.refl _ _).alloc (Nat.le_refl _) _
  have ha0 := ha.below bel0
  generalize w.alloc (Obj.cells #[Value.int IntKind.i64 k, Value.int IntKind.i64 m] 23) = W0 at *
  obtain ⟨G, hG⟩ : ∃ G, G = w.heap.size := ⟨_, rfl⟩
  rw [← hG] at k0
  rw [← hG]
  clear hG ha
  go_wp2_with (first
    | (at_make; refine wpList_make_full _ rfl _ _ 29 rfl W0.heap.size 23 i1 (.agg #[.int .i64 0, .int .i64 0]) 2 Try.underlying29 hi hz0 hz1 .i64 .i64 _ _ (n + 80) rfl rfl ?c1 ?c2 ?c3 ?c4 (Nat.le_refl _) ?_)
    | fail)
  case c1 => omega
  case c2 => omega
  case c3 => rw [hz2]; omega
  case c4 => unfold maxLen; omega
  intro W2 hown2 hgr
  have bel2 := bel0.trans (((Below.refl W0.heap.size W0).grown hgr (Nat.le_refl _) (fun q hq => by cases hq)).mono bel0.size)
  have u2 : Below W0.heap.size W0 W2 := (Below.refl W0.heap.size W0).grown hgr (Nat.le_refl _) (fun q hq => by cases hq)
  have ha2 := ha0.below u2
  have k2 := blk_kept k0 u2
  have gW := bel0.size
  obtain ⟨g, cap, cur, e', hg, hb, h1, h2, h3, h4⟩ := hown2.2.resolve_left (fun q => by cases q.1)
  cases e'
  have hR : W2.rowIs W0.heap.size 23 ((n + 80) * 2) (fun i => cur[i]?.getD default) := ⟨cur, hb, h3, fun i hi2 => by simp [Array.getElem?_eq_getElem (show i < cur.size by omega)]⟩
  have gne : G < W0.heap.size := lt_of_heap k0
  generalize W0.heap.size = g at *
  clear hown2 hgr hb h1 h2 h3 h4 ha0 k0 bel0 u2 hg
  have hsrc := kcells_src ha2
  have hlen := kcells_len z n
  have hcl : ∀ j, j < (kcells z n).length → (W2.cell? ⟨g, 0 + j, none⟩).isSome = true := fun j hj => by rw [Nat.zero_add, hR.cell (by omega)]; rfl
  have hfr : ∀ j, j < (kcells z n).length → W2.frozen? ⟨g, 0 + j, none⟩ = false := fun j _ => hR.frozen _
  have hcopy := fun ty => run_copy_wide (P := Try.prog) W2 29 29 ty 23 2 n g 0 (n + 80) (n + 80) x n c (kcells z n) Try.underlying29 k_key_size (by show min n (n + 80) = n; omega) hlen hsrc hcl hfr (kcells_one z n)
  go_wp2_with (first
    | (at_builtin; refine wpList_copy_own2 W2 rfl _ _ _ _ rfl _ _ rfl rfl (hcopy _) ?_)
    | fail)
  have hR3 := Go.rowIs_setCells (kcells z n) 0 W2 _ hR
  have bel3 := Go.below_setCells (b := g) gW (kcells z n) 0 W2 bel2
  have k3 : blk (W2.setCells g 0 (kcells z n)) G = some (.cells #[.int .i64 k, .int .i64 m] 23 (0, 0)) := ((Go.below_setCells (B := g) (b := g) (Nat.le_refl _) (kcells z n) 0 W2 (Below.refl g W2)).block G gne).trans k2
  have hF : ∀ i, i < n → (fun j => if 0 ≤ j ∧ j < 0 + (kcells z n).length then (kcells z n)[j - 0]?.getD default else cur[j]?.getD default) (i * 2) = .int .i64 (z i).1 ∧ (fun j => if 0 ≤ j ∧ j < 0 + (kcells z n).length then (kcells z n)[j - 0]?.getD default else cur[j]?.getD default) (i * 2 + 1) = .int .i64 (z i).2 := by
    intro i hi2
    obtain ⟨q0, q1⟩ := kcells_at z n i hi2
    simp only []
    rw [if_pos (by omega), if_pos (by omega), Nat.sub_zero, Nat.sub_zero, q0, q1]
    exact ⟨rfl, rfl⟩
  generalize (fun j => if 0 ≤ j ∧ j < 0 + (kcells z n).length then (kcells z n)[j - 0]?.getD default else cur[j]?.getD default) = f at *
  generalize W2.setCells g 0 (kcells z n) = W3 at *
  clear hR bel2 k2 ha2 hlen
  go_loopw [6] (fun i wr => ∃ (j : Nat) (f : Nat → Value), n ≤ j ∧ j ≤ n + 80 ∧ i = .int .i64 (j : Int) ∧ wr.rowIs g 23 ((n + 80) * 2) f ∧ (∀ i, i < n → f (i * 2) = .int .i64 (z i).1 ∧ f (i * 2 + 1) = .int .i64 (z i).2) ∧ (∀ i, n ≤ i → i < j → f (i * 2) = .int .i64 k ∧ f (i * 2 + 1) = .int .i64 m) ∧ Below w.heap.size w wr ∧ blk wr G = some (.cells #[.int .i64 k, .int .i64 m] 23 (0, 0))) (fun i _ => n + 80 - (intOf i).toNat)
  case atStart => exact ⟨n, f, Nat.le_refl _, by omega, rfl, hR3, hF, fun i q1 q2 => absurd q2 (by omega), bel3, k3⟩
  case round =>
    clear hR3 hF bel3 k3
    obtain ⟨j, f2, j1, j2, rfl, hR4, hA, hM, bel4, k4⟩ := hrel
    by_cases hlt : j < n + 80
    · have l1 : (j : Int) < (n : Int) + 80 := by omega
      have l2 : (j : Int) < ((n + 80 : Nat) : Int) := by omega
      have l0 : (0 : Int) ≤ (j : Int) := by omega
      have g0 := cell_of_row _ _ 0 _ _ _ k4
      have g1 := cell_of_row _ _ 1 _ _ _ k4
      simp at g0 g1
      have y0 := hR4.cell (i := j * 2) (by omega)
      have y1 := hR4.cell (i := j * 2 + 1) (by omega)
      have z0 := hR4.frozen (j * 2)
      have z1 := hR4.frozen (j * 2 + 1)
      have hR5 := (hR4.set (j * 2) (.int .i64 k)).set (j * 2 + 1) (.int .i64 m)
      have bel5 := (bel4.setCell (p := ⟨g, j * 2, none⟩) gW (.int .i64 k)).setCell (p := ⟨g, j * 2 + 1, none⟩) gW (.int .i64 m)
      have k5 := ((((Below.refl g wr).setCell (p := ⟨g, j * 2, none⟩) (Nat.le_refl _) (.int .i64 k)).setCell (p := ⟨g, j * 2 + 1, none⟩) (Nat.le_refl _) (.int .i64 m)).block G gne).trans k4
      have hA5 : ∀ i, i < n → (fun q => if q = j * 2 + 1 then Value.int .i64 m else (fun q => if q = j * 2 then Value.int .i64 k else f2 q) q) (i * 2) = .int .i64 (z i).1 ∧ (fun q => if q = j * 2 + 1 then Value.int .i64 m else (fun q => if q = j * 2 then Value.int .i64 k else f2 q) q) (i * 2 + 1) = .int .i64 (z i).2 := by
        intro i hi2
        simp only []
        rw [if_neg (by omega), if_neg (by omega), if_neg (by omega), if_neg (by omega)]
        exact hA i hi2
      have hM5 : ∀ i, n ≤ i → i < j + 1 → (fun q => if q = j * 2 + 1 then Value.int .i64 m else (fun q => if q = j * 2 then Value.int .i64 k else f2 q) q) (i * 2) = .int .i64 k ∧ (fun q => if q = j * 2 + 1 then Value.int .i64 m else (fun q => if q = j * 2 then Value.int .i64 k else f2 q) q) (i * 2 + 1) = .int .i64 m := by
        intro i q1 q2
        simp only []
        by_cases e : i = j
        · subst e
          rw [if_neg (by omega), if_pos rfl, if_pos rfl]
          exact ⟨rfl, rfl⟩
        · rw [if_neg (by omega), if_neg (by omega), if_neg (by omega), if_neg (by omega)]
          exact hM i q1 (by omega)
      have Hall := Lib.hid (And.intro hR5 (And.intro hA5 (And.intro hM5 (And.intro bel5 k5))))
      clear hR5 bel5 k5 hA5 hM5 hA hM hR4 k4 bel4
      go_wp2_with fail
      obtain ⟨q1, q2, q3, q4, q5⟩ := Hall.out
      exact ⟨⟨j + 1, _, by omega, by omega, by go_num, q1, q2, q3, q4, q5⟩, by simp [intOf]; omega⟩
    · obtain rfl : j = n + 80 := by omega
      have hK : KR wr (some ⟨g, 0, none⟩) (n + 80) (fun i => if i < n then z i else (k, m)) := by
        intro i hi2
        have ea : (⟨g, 0, none⟩ : Addr).add (i * 2) = ⟨g, i * 2, none⟩ := by unfold Addr.add; split <;> simp_all
        refine ⟨_, rfl, ?_, ?_⟩
        · rw [ea, hR4.cell (by omega)]
          by_cases e : i < n
          · rw [(hA i e).1]; simp [e]
          · rw [(hM i (by omega) hi2).1]; simp [e]
        · rw [ea]
          show wr.cell? ⟨g, i * 2 + 1, none⟩ = _
          rw [hR4.cell (by omega)]
          by_cases e : i < n
          · rw [(hA i e).2]; simp [e]
          · rw [(hM i (by omega) hi2).2]; simp [e]
      clear hR4 hA hM k4
      go_wp2_with fail
      go_ret
      exact ⟨g, rfl, gW, hK, bel4⟩
end Go.Proofs.Ytncgppdmfnapiaa.St
