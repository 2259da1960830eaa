/- Maps keyed by numbers: what a look-up and a store give, as plain functions. No condition but those written in each statement. -/
import Derived.Test.YtfcgkjbifnhjjaaGreatDoorRngQ
import Derived.Maps.OwnSet
namespace Go.Proofs.YtfcgkjbifnhjjaaGreatDoor.St
open Go.RowKit
set_option linter.unusedVariables false

theorem int_keys : Maps.Keyed Tryz.prog 3 := Maps.int_keyed Tryz.underlying3
abbrev wfI (p : Int) : Prop := (Lit.int .i64 p).wf = true
theorem wfI_of {p : Int} (h0 : -1000000 ≤ p) (h1 : p ≤ 1000000) : wfI p := by apply WalkArith.wf_i64 <;> omega
/-- The entries are keyed by numbers, each once, and read as f does. -/
structure KI (es : Array MapEntry) (clk : Nat) (f : Int → Option Value) : Prop where
  born : Born es clk
  keyed : ∀ i (h : i < es.size), ∃ p, wfI p ∧ es[i].key = .int .i64 p ∧ f p = some es[i].val
  there : ∀ p v, f p = some v → ∃ i, ∃ h : i < es.size, es[i].key = .int .i64 p
  once : ∀ i j (hi : i < es.size) (hj : j < es.size), es[i].key = es[j].key → i = j
theorem ki_empty : KI #[] 0 (fun _ => none) := ⟨⟨fun i h => absurd h (by simp), fun i j h _ _ => absurd h (by simp)⟩, fun i h => absurd h (by simp), fun p v h => absurd h (by simp), fun i j h _ _ => absurd h (by simp)⟩
theorem intV_inj {a b : Int} (h : Value.int .i64 a = .int .i64 b) : a = b := by simpa using h
/-- A look-up among the entries. -/
theorem run_findI {es : Array MapEntry} {clk : Nat} {f : Int → Option Value} (h : KI es clk f) (p : Int) (hp : wfI p) (w : World) :
    (f p = none ∧ (Instr.findKey 3 (.int .i64 p) es.toList).run Tryz.prog w = .ok none w) ∨
    ∃ i e, es[i]? = some e ∧ f p = some e.val ∧ e.key = .int .i64 p ∧ (Instr.findKey 3 (.int .i64 p) es.toList).run Tryz.prog w = .ok (some (i, e.val)) w := by
  rcases int_keys.find w (Maps.keyOf_int_mk Tryz.underlying3 hp) es.toList (fun e he => by
    obtain ⟨i, hi, rfl⟩ := List.getElem_of_mem he
    obtain ⟨q, h1, h2, _⟩ := h.keyed i (by simpa using hi)
    have h2' : (es.toList[i]).key = .int .i64 q := by simpa using h2
    rw [h2']
    exact ⟨_, Maps.keyOf_int_mk Tryz.underlying3 h1⟩) with ⟨h1, h2⟩ | ⟨j, e, h1, h2, h3⟩
  · left
    refine ⟨?_, h1⟩
    cases hf : f p with
    | none => rfl
    | some v =>
      obtain ⟨i, hi, hk⟩ := h.there p v hf
      exact absurd hk (h2 es[i] (by simp))
  · right
    have h2' : es[j]? = some e := by simpa using h2
    obtain ⟨hj, he⟩ := Array.getElem?_eq_some_iff.1 h2'
    obtain ⟨q, _, h4, h5⟩ := h.keyed j hj
    rw [he] at h4 h5
    rw [h3] at h4
    obtain rfl := intV_inj h4
    exact ⟨j, e, h2', h5, h3, h1⟩
theorem run_lookI {r T E : Nat} {es : Array MapEntry} {clk : Nat} {f : Int → Option Value} {z : Value} (hT : Tryz.prog.underlying T = some (.map 3 E)) (h : KI es clk f) (p : Int) (hp : wfI p) (W : World)
    (hb : W.heap[r]? = some (.map es clk)) (hz : (zeroValue E).run Tryz.prog W = .ok z W) :
    (Instr.lookup T (.map (some r)) (.int .i64 p) true).run Tryz.prog W = .ok (.tuple #[(f p).getD z, .bool (f p).isSome]) W ∧
    (Instr.lookup T (.map (some r)) (.int .i64 p) false).run Tryz.prog W = .ok ((f p).getD z) W := by
  have hc : ∀ em, (Instr.checkKey em 10000 3 (.int .i64 p)).run Tryz.prog W = .ok () W := fun em => int_keys.check W em (Maps.keyOf_int_mk Tryz.underlying3 hp)
  unfold Instr.lookup
  simp only [Sem.run_bind, run_underlying hT, Result.andThen_ok, MapKept.run_getObj_map hb, Sem.run_pure, hc]
  rcases run_findI h p hp W with ⟨h1, h2⟩ | ⟨i, e, h1, h2, h3, h4⟩
  · simp only [h2, Result.andThen_ok, hz, Sem.run_bind, Sem.run_pure, h1]
    exact ⟨rfl, rfl⟩
  · simp only [h4, Result.andThen_ok, Sem.run_bind, Sem.run_pure, h2]
    exact ⟨rfl, rfl⟩
/-- One more key, or a key's new element. -/
def updI (f : Int → Option Value) (p : Int) (v : Value) : Int → Option Value := fun q => if q = p then some v else f q
theorem KI.push {es : Array MapEntry} {clk : Nat} {f : Int → Option Value} (h : KI es clk f) (p : Int) (hp : wfI p) (v : Value) (hn : f p = none) : KI (es.push { key := .int .i64 p, val := v, born := clk }) (clk + 1) (updI f p v) := by
  have hfresh : ∀ i (hi : i < es.size), es[i].key ≠ .int .i64 p := by
    intro i hi e
    obtain ⟨q, _, h1, h2⟩ := h.keyed i hi
    rw [e] at h1
    obtain rfl := intV_inj h1
    rw [hn] at h2; cases h2
  constructor
  · exact h.born.push _ _
  · intro i hi
    by_cases e : i < es.size
    · obtain ⟨q, h0, h1, h2⟩ := h.keyed i e
      refine ⟨q, h0, by rw [Array.getElem_push_lt e]; exact h1, ?_⟩
      unfold updI
      rw [if_neg, Array.getElem_push_lt e]
      · exact h2
      · rintro rfl; rw [hn] at h2; cases h2
    · have e2 : i = es.size := by simp at hi; omega
      subst e2
      refine ⟨p, hp, by simp, ?_⟩
      unfold updI
      rw [if_pos rfl]; simp
  · intro q v' hv
    unfold updI at hv
    by_cases c : q = p
    · subst c
      exact ⟨es.size, by simp, by simp⟩
    · rw [if_neg c] at hv
      obtain ⟨i, hi, h1⟩ := h.there q v' hv
      exact ⟨i, by simp; omega, by rw [Array.getElem_push_lt hi]; exact h1⟩
  · intro i j hi hj e
    simp at hi hj
    by_cases c1 : i < es.size
    · by_cases c2 : j < es.size
      · rw [Array.getElem_push_lt c1, Array.getElem_push_lt c2] at e
        exact h.once i j c1 c2 e
      · have c3 : j = es.size := by omega
        subst c3
        rw [Array.getElem_push_lt c1, Array.getElem_push_eq] at e
        exact absurd e (hfresh i c1)
    · have c3 : i = es.size := by omega
      subst c3
      by_cases c2 : j < es.size
      · rw [Array.getElem_push_lt c2, Array.getElem_push_eq] at e
        exact absurd e.symm (hfresh j c2)
      · omega
theorem KI.modify {es : Array MapEntry} {clk : Nat} {f : Int → Option Value} (h : KI es clk f) (p : Int) (hp : wfI p) (v : Value) {i : Nat} {e : MapEntry} (hi : es[i]? = some e) (hk : e.key = .int .i64 p) :
    KI (es.modify i fun x => { x with key := .int .i64 p, val := v }) clk (updI f p v) := by
  obtain ⟨hi', he⟩ := Array.getElem?_eq_some_iff.1 hi
  have hsame : ∀ j (hj : j < es.size), j ≠ i → es[j].key ≠ .int .i64 p := by
    intro j hj hne q
    exact hne (h.once j i hj hi' (by rw [q, he, hk]))
  have hne : ∀ j (hj : j < (es.modify i fun x => { x with key := .int .i64 p, val := v }).size) (hj2 : j < es.size), j ≠ i → (es.modify i fun x => { x with key := .int .i64 p, val := v })[j] = es[j] := by
    intro j hj hj2 c
    rw [Array.getElem_modify, if_neg (Ne.symm c)]
  have hpos : ∀ (hj : i < (es.modify i fun x => { x with key := .int .i64 p, val := v }).size), (es.modify i fun x => { x with key := .int .i64 p, val := v })[i] = { e with key := .int .i64 p, val := v } := by
    intro hj
    rw [Array.getElem_modify, if_pos rfl, he]
  have key : ∀ j (hj : j < (es.modify i fun x => { x with key := .int .i64 p, val := v }).size) (hj2 : j < es.size), (es.modify i fun x => { x with key := .int .i64 p, val := v })[j].key = es[j].key := by
    intro j hj hj2
    by_cases c : j = i
    · subst c; rw [hpos, he, hk]
    · rw [hne j hj hj2 c]
  constructor
  · exact h.born.modify _ _ _
  · intro j hj
    have hj2 : j < es.size := by simpa using hj
    by_cases c : j = i
    · subst c
      refine ⟨p, hp, by rw [hpos], ?_⟩
      unfold updI
      rw [if_pos rfl, hpos]
    · obtain ⟨q, h0, h1, h2⟩ := h.keyed j hj2
      refine ⟨q, h0, by rw [hne j hj hj2 c]; exact h1, ?_⟩
      unfold updI
      rw [hne j hj hj2 c, if_neg]
      · exact h2
      · rintro rfl
        exact hsame j hj2 c h1
  · intro q v' hv
    unfold updI at hv
    by_cases c : q = p
    · subst c
      exact ⟨i, by simpa using hi', by rw [hpos]⟩
    · rw [if_neg c] at hv
      obtain ⟨j, hj, h1⟩ := h.there q v' hv
      exact ⟨j, by simpa using hj, by rw [key j (by simpa using hj) hj]; exact h1⟩
  · intro j k hj hk2 e2
    have hj2 : j < es.size := by simpa using hj
    have hk3 : k < es.size := by simpa using hk2
    rw [key j hj hj2, key k hk2 hk3] at e2
    exact h.once j k hj2 hk3 e2
theorem run_updI {r T E : Nat} {es : Array MapEntry} {clk : Nat} {f : Int → Option Value} (hT : Tryz.prog.underlying T = some (.map 3 E)) (h : KI es clk f) (p : Int) (hp : wfI p) (v : Value) :
    ∃ es' clk', KI es' clk' (updI f p v) ∧ ∀ W : World, W.heap[r]? = some (.map es clk) → (Instr.mapUpdate T (.map (some r)) (.int .i64 p) v).run Tryz.prog W = .ok () { W with heap := W.heap.setIfInBounds r (.map es' clk') } := by
  have hc : ∀ em W, (Instr.checkKey em 10000 3 (.int .i64 p)).run Tryz.prog W = .ok () W := fun em W => int_keys.check W em (Maps.keyOf_int_mk Tryz.underlying3 hp)
  cases hf : f p with
  | none =>
    refine ⟨_, clk + 1, h.push p hp v hf, fun W hb => ?_⟩
    rcases run_findI h p hp W with ⟨h1, h2⟩ | ⟨i, e, h1, h2, h3, h4⟩
    · unfold Instr.mapUpdate
      simp only [Sem.run_bind, run_underlying hT, Result.andThen_ok, MapKept.run_getObj_map hb, hc, h2, MapKept.run_setObj_map _ hb]
    · rw [hf] at h2; cases h2
  | some u =>
    obtain ⟨i, hi, hk⟩ := h.there p u hf
    refine ⟨_, clk, h.modify p hp v (Array.getElem?_eq_getElem hi) hk, fun W hb => ?_⟩
    rcases run_findI h p hp W with ⟨h1, h2⟩ | ⟨j, e, h1, h2, h3, h4⟩
    · rw [hf] at h1; cases h1
    · obtain ⟨hj, he⟩ := Array.getElem?_eq_some_iff.1 h1
      have : i = j := h.once i j hi hj (by rw [hk, he, h3])
      subst this
      have hs : (Instr.keyThatStays (((es[i]?).map (·.key)).getD (.int .i64 p)) (.int .i64 p)).run Tryz.prog W = .ok (.int .i64 p) W := by
        rw [h1]
        simp only [Option.map_some, Option.getD_some, h3]
        exact int_keys.stays W (Maps.keyOf_int_mk Tryz.underlying3 hp)
      unfold Instr.mapUpdate
      simp only [Sem.run_bind, run_underlying hT, Result.andThen_ok, MapKept.run_getObj_map hb, hc, h4, hs, MapKept.run_setObj_map _ hb]
end Go.Proofs.YtfcgkjbifnhjjaaGreatDoor.St
