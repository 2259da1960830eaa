/- Maps keyed by objects' keys: what a look-up and a store give, as plain functions. The contract of key.Place: the place of a key among all objects. No condition but those written in each statement. -/
import Derived.Test.YtfcgkjbifnhjjaaGreatDoorQ50
import Derived.Laws.StructEq
import Derived.DeepKeys3
import Derived.WideKeyRuns
import Derived.MapKept
namespace Go.Proofs.YtfcgkjbifnhjjaaGreatDoor.St
open Go.RowKit

/-- A key as a value. -/
abbrev keyV (k n : Int) : Value := .agg #[.int .i64 k, .int .i64 n]

theorem keyV_inj {a b c d : Int} (h : keyV a b = keyV c d) : a = c ∧ b = d := by
  simp only [keyV, Value.agg.injEq, Array.mk.injEq, List.cons.injEq, Value.int.injEq, true_and, and_true] at h
  exact h

theorem key_stood : Tryz.prog.stoodInHeld 57 = false := by kernel_rfl

theorem key_eq (a b c d : Int) (w : World) : (Op.equal 57 (keyV a b) (keyV c d)).run Tryz.prog w = .ok (a == c && b == d) w := by
  show (Op.equalIn (9999 + 1) 57 (keyV a b) (keyV c d)).run Tryz.prog w = _
  have hu := Tryz.underlying57
  have hf : Tryz.prog.underlying 57 = some (.struct (Tryz.prog.fieldsOf 57)) := by simp [Program.fieldsOf, hu]
  rw [run_equalIn_struct w 9999 _ _ _ hf key_stood]
  have hi := Tryz.underlying3
  simp only [Program.fieldsOf, hu]
  have e1 : ("Kind" ≠ "_") = True := by decide
  have e2 : ("N" ≠ "_") = True := by decide
  have hp : ∀ (x y : Int) (i : Nat) (v : Value) (w : World), #[Value.int IntKind.i64 x, Value.int IntKind.i64 y][i]? = some v → (part 3 #[Value.int IntKind.i64 x, Value.int IntKind.i64 y] i).run Tryz.prog w = .ok v w := by
    intro x y i v w h
    simp [part, isAgg, run_underlying hi, h]
  have hq : ∀ (x y : Int) (w : World), (Op.equalIn 9999 3 (.int .i64 x) (.int .i64 y)).run Tryz.prog w = .ok (x == y) w := fun x y w => run_equalIn_int w 9998 _ _ _ _ _ hi
  have p1 := hp a b 0 (.int .i64 a) w rfl
  have p2 := hp c d 0 (.int .i64 c) w rfl
  have p3 := hp a b 1 (.int .i64 b) w rfl
  have p4 := hp c d 1 (.int .i64 d) w rfl
  simp only [Op.eqFields, Sem.run_bind, p1, p2, Result.andThen_ok, hq, e1, e2, if_true]
  cases h1 : (a == c)
  · simp
  · simp only [Bool.not_true, Bool.false_eq_true, if_false, Sem.run_bind, p3, p4, Result.andThen_ok, hq]
    cases h2 : (b == d) <;> simp

theorem key_check (em : Bool) (a b : Int) (w : World) : (Instr.checkKey em 10000 57 (keyV a b)).run Tryz.prog w = .ok () w := by
  have hu := Tryz.underlying57
  have hi := Tryz.underlying3
  have hp : ∀ (x y : Int) (i : Nat) (v : Value) (w : World), #[Value.int IntKind.i64 x, Value.int IntKind.i64 y][i]? = some v → (part 3 #[Value.int IntKind.i64 x, Value.int IntKind.i64 y] i).run Tryz.prog w = .ok v w := by
    intro x y i v w h
    simp [part, isAgg, run_underlying hi, h]
  have hc : ∀ (x : Int) (w : World), (Instr.checkKey em 9999 3 (.int .i64 x)).run Tryz.prog w = .ok () w := by
    intro x w
    show (Instr.checkKey em (9998 + 1) 3 (.int .i64 x)).run Tryz.prog w = .ok () w
    unfold Instr.checkKey
    simp [run_underlying hi]
  show (Instr.checkKey em (9999 + 1) 57 (keyV a b)).run Tryz.prog w = .ok () w
  have p1 := hp a b 0 (.int .i64 a) w rfl
  have p2 := hp a b 1 (.int .i64 b) w rfl
  unfold Instr.checkKey
  simp only [Sem.run_bind, run_underlying hu, Result.andThen_ok]
  simp [p1, p2, hc]

/-- Where the key stands among the entries, if it does. -/
def findE (a b : Int) : List MapEntry → Nat → Option (Nat × Value)
  | [], _ => none
  | e :: es, i => match e.key with
    | .agg #[.int .i64 c, .int .i64 d] => if a = c ∧ b = d then some (i, e.val) else findE a b es (i + 1)
    | _ => none

/-- The entries' stamps: each its own, none of the future. -/
structure Born (es : Array MapEntry) (clk : Nat) : Prop where
  young : ∀ i (h : i < es.size), es[i].born < clk
  once : ∀ i j (hi : i < es.size) (hj : j < es.size), es[i].born = es[j].born → i = j
theorem Born.push {es : Array MapEntry} {clk : Nat} (h : Born es clk) (k v : Value) : Born (es.push { key := k, val := v, born := clk }) (clk + 1) := by
  constructor
  · intro i hi
    by_cases e : i < es.size
    · rw [Array.getElem_push_lt e]; have := h.young i e; omega
    · have e2 : i = es.size := by simp at hi; omega
      subst e2; simp
  · intro i j hi hj e
    simp at hi hj
    by_cases c1 : i < es.size
    · by_cases c2 : j < es.size
      · rw [Array.getElem_push_lt c1, Array.getElem_push_lt c2] at e
        exact h.once i j c1 c2 e
      · have c3 : j = es.size := by omega
        subst c3
        rw [Array.getElem_push_lt c1, Array.getElem_push_eq] at e
        have := h.young i c1
        simp at e; omega
    · have c3 : i = es.size := by omega
      subst c3
      by_cases c2 : j < es.size
      · rw [Array.getElem_push_lt c2, Array.getElem_push_eq] at e
        have := h.young j c2
        simp at e; omega
      · omega
theorem Born.modify {es : Array MapEntry} {clk : Nat} (h : Born es clk) (k v : Value) (i : Nat) : Born (es.modify i fun x => { x with key := k, val := v }) clk := by
  have hb : ∀ j (hj : j < (es.modify i fun x => { x with key := k, val := v }).size) (hj2 : j < es.size), (es.modify i fun x => { x with key := k, val := v })[j].born = es[j].born := by
    intro j hj hj2
    rw [Array.getElem_modify]
    split
    · rename_i c; subst c; rfl
    · rfl
  constructor
  · intro j hj
    have hj2 : j < es.size := by simpa using hj
    rw [hb j hj hj2]; exact h.young j hj2
  · intro j l hj hl e
    have hj2 : j < es.size := by simpa using hj
    have hl2 : l < es.size := by simpa using hl
    rw [hb j hj hj2, hb l hl hl2] at e
    exact h.once j l hj2 hl2 e
/-- The entries are keyed by keys, each once, and read as f does. -/
structure KM (es : Array MapEntry) (clk : Nat) (f : Int → Int → Option Value) : Prop where
  born : Born es clk
  keyed : ∀ i (h : i < es.size), ∃ k n, es[i].key = keyV k n ∧ f k n = some es[i].val
  there : ∀ k n v, f k n = some v → ∃ i, ∃ h : i < es.size, es[i].key = keyV k n
  once : ∀ i j (hi : i < es.size) (hj : j < es.size), es[i].key = es[j].key → i = j

theorem run_asking (a b : Int) (w : World) : ∀ (l : List MapEntry) (i : Nat), (∀ e ∈ l, ∃ k n, e.key = keyV k n) →
    ((Instr.findAsking 57 (keyV a b) l i).run Tryz.prog w = .ok none w ∧ ∀ e ∈ l, e.key ≠ keyV a b) ∨
    ∃ j e, (Instr.findAsking 57 (keyV a b) l i).run Tryz.prog w = .ok (some (i + j, e.val)) w ∧ l[j]? = some e ∧ e.key = keyV a b
  | [], i, _ => Or.inl ⟨by simp [Instr.findAsking], by simp⟩
  | e :: es, i, hall => by
    obtain ⟨c, d, hk⟩ := hall e (by simp)
    have hr := key_eq a b c d w
    rw [← hk] at hr
    cases hb : (a == c && b == d)
    · rw [hb] at hr
      have hne : e.key ≠ keyV a b := by
        intro h
        rw [hk] at h
        obtain ⟨h1, h2⟩ := keyV_inj h
        subst h1 h2
        simp at hb
      rcases run_asking a b w es (i + 1) (fun y hy => hall y (by simp [hy])) with ⟨h1, h2⟩ | ⟨j, e', h1, h2, h3⟩
      · left
        refine ⟨by simp [Instr.findAsking, hr, h1], fun y hy => ?_⟩
        rcases List.mem_cons.1 hy with rfl | hy
        · exact hne
        · exact h2 y hy
      · right
        exact ⟨j + 1, e', by simp [Instr.findAsking, hr, h1, Nat.add_assoc, Nat.add_comm 1 j], by simpa using h2, h3⟩
    · rw [hb] at hr
      right
      simp at hb
      obtain ⟨rfl, rfl⟩ := hb
      exact ⟨0, e, by simp [Instr.findAsking, hr], rfl, hk⟩

/-- A look-up among the entries. -/
theorem run_find {es : Array MapEntry} {clk : Nat} {f : Int → Int → Option Value} (h : KM es clk f) (a b : Int) (w : World) :
    (f a b = none ∧ (Instr.findKey 57 (keyV a b) es.toList).run Tryz.prog w = .ok none w) ∨
    ∃ i e, es[i]? = some e ∧ f a b = some e.val ∧ e.key = keyV a b ∧ (Instr.findKey 57 (keyV a b) es.toList).run Tryz.prog w = .ok (some (i, e.val)) w := by
  rw [run_findKey_eq (k := 57) w (by rw [Tryz.underlying57])]
  rcases run_asking a b w es.toList 0 (fun e he => by
    obtain ⟨i, hi, rfl⟩ := List.getElem_of_mem he
    obtain ⟨k, n, h1, _⟩ := h.keyed i (by simpa using hi)
    exact ⟨k, n, by simpa using h1⟩) with ⟨h1, h2⟩ | ⟨j, e, h1, h2, h3⟩
  · left
    refine ⟨?_, h1⟩
    cases hf : f a b with
    | none => rfl
    | some v =>
      obtain ⟨i, hi, hk⟩ := h.there a b v hf
      exact absurd hk (h2 es[i] (by simp))
  · right
    rw [Nat.zero_add] at h1
    have h2' : es[j]? = some e := by simpa using h2
    obtain ⟨hj, he⟩ := Array.getElem?_eq_some_iff.1 h2'
    obtain ⟨k, n, h4, h5⟩ := h.keyed j hj
    rw [he] at h4 h5
    rw [h3] at h4
    obtain ⟨rfl, rfl⟩ := keyV_inj h4
    exact ⟨j, e, h2', h5, h3, h1⟩

theorem run_look {r T E : Nat} {es : Array MapEntry} {clk : Nat} {f : Int → Int → Option Value} {z : Value} (hT : Tryz.prog.underlying T = some (.map 57 E)) (h : KM es clk f) (a b : Int) (W : World)
    (hb : W.heap[r]? = some (.map es clk)) (hz : (zeroValue E).run Tryz.prog W = .ok z W) :
    (Instr.lookup T (.map (some r)) (keyV a b) true).run Tryz.prog W = .ok (.tuple #[(f a b).getD z, .bool (f a b).isSome]) W := by
  unfold Instr.lookup
  simp only [Sem.run_bind, run_underlying hT, Result.andThen_ok, MapKept.run_getObj_map hb, Sem.run_pure, key_check]
  rcases run_find h a b W with ⟨h1, h2⟩ | ⟨i, e, h1, h2, h3, h4⟩
  · simp only [h2, Result.andThen_ok, hz, Sem.run_bind, Sem.run_pure, h1]
    rfl
  · simp only [h4, Result.andThen_ok, Sem.run_bind, Sem.run_pure, h2]
    rfl

/-- One more key, or a key's new element. -/
def updK (f : Int → Int → Option Value) (a b : Int) (v : Value) : Int → Int → Option Value := fun k n => if k = a ∧ n = b then some v else f k n

theorem KM.push {es : Array MapEntry} {clk : Nat} {f : Int → Int → Option Value} (h : KM es clk f) (a b : Int) (v : Value) (hn : f a b = none) : KM (es.push { key := keyV a b, val := v, born := clk }) (clk + 1) (updK f a b v) := by
  have hfresh : ∀ i (hi : i < es.size), es[i].key ≠ keyV a b := by
    intro i hi e
    obtain ⟨k, n, h1, h2⟩ := h.keyed i hi
    rw [e] at h1
    obtain ⟨rfl, rfl⟩ := keyV_inj h1
    rw [hn] at h2; cases h2
  constructor
  · exact h.born.push _ _
  · intro i hi
    by_cases e : i < es.size
    · obtain ⟨k, n, h1, h2⟩ := h.keyed i e
      refine ⟨k, n, by rw [Array.getElem_push_lt e]; exact h1, ?_⟩
      unfold updK
      rw [if_neg, Array.getElem_push_lt e]
      · exact h2
      · rintro ⟨rfl, rfl⟩; rw [hn] at h2; cases h2
    · have e2 : i = es.size := by simp at hi; omega
      subst e2
      refine ⟨a, b, by simp, ?_⟩
      unfold updK
      rw [if_pos ⟨rfl, rfl⟩]; simp
  · intro k n v' hv
    unfold updK at hv
    by_cases c : k = a ∧ n = b
    · obtain ⟨rfl, rfl⟩ := c
      exact ⟨es.size, by simp, by simp⟩
    · rw [if_neg c] at hv
      obtain ⟨i, hi, h1⟩ := h.there k n v' hv
      exact ⟨i, by simp; omega, by rw [Array.getElem_push_lt hi]; exact h1⟩
  · intro i j hi hj e
    simp at hi hj
    by_cases c1 : i < es.size
    · by_cases c2 : j < es.size
      · rw [Array.getElem_push_lt c1, Array.getElem_push_lt c2] at e
        exact h.once i j c1 c2 e
      · have c3 : j = es.size := by omega
        subst c3
        rw [Array.getElem_push_lt c1, Array.getElem_push_eq] at e
        exact absurd e (hfresh i c1)
    · have c3 : i = es.size := by omega
      subst c3
      by_cases c2 : j < es.size
      · rw [Array.getElem_push_lt c2, Array.getElem_push_eq] at e
        exact absurd e.symm (hfresh j c2)
      · omega

theorem KM.modify {es : Array MapEntry} {clk : Nat} {f : Int → Int → Option Value} (h : KM es clk f) (a b : Int) (v : Value) {i : Nat} {e : MapEntry} (hi : es[i]? = some e) (hk : e.key = keyV a b) :
    KM (es.modify i fun x => { x with key := keyV a b, val := v }) clk (updK f a b v) := by
  obtain ⟨hi', he⟩ := Array.getElem?_eq_some_iff.1 hi
  have hsame : ∀ j (hj : j < es.size), j ≠ i → es[j].key ≠ keyV a b := by
    intro j hj hne q
    exact hne (h.once j i hj hi' (by rw [q, he, hk]))
  have hne : ∀ j (hj : j < (es.modify i fun x => { x with key := keyV a b, val := v }).size) (hj2 : j < es.size), j ≠ i → (es.modify i fun x => { x with key := keyV a b, val := v })[j] = es[j] := by
    intro j hj hj2 c
    rw [Array.getElem_modify, if_neg (Ne.symm c)]
  have hpos : ∀ (hj : i < (es.modify i fun x => { x with key := keyV a b, val := v }).size), (es.modify i fun x => { x with key := keyV a b, val := v })[i] = { e with key := keyV a b, val := v } := by
    intro hj
    rw [Array.getElem_modify, if_pos rfl, he]
  have key : ∀ j (hj : j < (es.modify i fun x => { x with key := keyV a b, val := v }).size) (hj2 : j < es.size), (es.modify i fun x => { x with key := keyV a b, val := v })[j].key = es[j].key := by
    intro j hj hj2
    by_cases c : j = i
    · subst c; rw [hpos, he, hk]
    · rw [hne j hj hj2 c]
  constructor
  · exact h.born.modify _ _ _
  · intro j hj
    have hj2 : j < es.size := by simpa using hj
    by_cases c : j = i
    · subst c
      refine ⟨a, b, by rw [hpos], ?_⟩
      unfold updK
      rw [if_pos ⟨rfl, rfl⟩, hpos]
    · obtain ⟨k, n, h1, h2⟩ := h.keyed j hj2
      refine ⟨k, n, by rw [hne j hj hj2 c]; exact h1, ?_⟩
      unfold updK
      rw [hne j hj hj2 c, if_neg]
      · exact h2
      · rintro ⟨rfl, rfl⟩
        exact hsame j hj2 c h1
  · intro k n v' hv
    unfold updK at hv
    by_cases c : k = a ∧ n = b
    · obtain ⟨rfl, rfl⟩ := c
      exact ⟨i, by simpa using hi', by rw [hpos]⟩
    · rw [if_neg c] at hv
      obtain ⟨j, hj, h1⟩ := h.there k n v' hv
      exact ⟨j, by simpa using hj, by rw [key j (by simpa using hj) hj]; exact h1⟩
  · intro j k hj hk2 e2
    have hj2 : j < es.size := by simpa using hj
    have hk3 : k < es.size := by simpa using hk2
    rw [key j hj hj2, key k hk2 hk3] at e2
    exact h.once j k hj2 hk3 e2

theorem key_bits (a b : Int) : Instr.sameBits 10000 (keyV a b) (keyV a b) = true := by
  show Instr.sameBits (9999 + 1) (keyV a b) (keyV a b) = true
  unfold Instr.sameBits
  simp [Instr.sameBits]

theorem run_update {r T E : Nat} {es : Array MapEntry} {clk : Nat} {f : Int → Int → Option Value} (hT : Tryz.prog.underlying T = some (.map 57 E)) (h : KM es clk f) (a b : Int) (v : Value) (W : World)
    (hb : W.heap[r]? = some (.map es clk)) :
    ∃ es' clk', KM es' clk' (updK f a b v) ∧ (Instr.mapUpdate T (.map (some r)) (keyV a b) v).run Tryz.prog W = .ok () { W with heap := W.heap.setIfInBounds r (.map es' clk') } := by
  rcases run_find h a b W with ⟨h1, h2⟩ | ⟨i, e, h1, h2, h3, h4⟩
  · refine ⟨_, clk + 1, h.push a b v h1, ?_⟩
    unfold Instr.mapUpdate
    simp only [Sem.run_bind, run_underlying hT, Result.andThen_ok, MapKept.run_getObj_map hb, key_check, h2, MapKept.run_setObj_map _ hb]
  · refine ⟨_, clk, h.modify a b v h1 h3, ?_⟩
    have hs : (Instr.keyThatStays (((es[i]?).map (·.key)).getD (keyV a b)) (keyV a b)).run Tryz.prog W = .ok (keyV a b) W := by
      rw [h1]
      simp only [Option.map_some, Option.getD_some, h3]
      unfold Instr.keyThatStays
      rw [if_pos (key_bits a b)]; rfl
    unfold Instr.mapUpdate
    simp only [Sem.run_bind, run_underlying hT, Result.andThen_ok, MapKept.run_getObj_map hb, key_check, h4, hs, MapKept.run_setObj_map _ hb]

theorem run_update_all {r T E : Nat} {es : Array MapEntry} {clk : Nat} {f : Int → Int → Option Value} (hT : Tryz.prog.underlying T = some (.map 57 E)) (h : KM es clk f) (a b : Int) (v : Value) :
    ∃ es' clk', KM es' clk' (updK f a b v) ∧ ∀ W : World, W.heap[r]? = some (.map es clk) → (Instr.mapUpdate T (.map (some r)) (keyV a b) v).run Tryz.prog W = .ok () { W with heap := W.heap.setIfInBounds r (.map es' clk') } := by
  cases hf : f a b with
  | none =>
    refine ⟨_, clk + 1, h.push a b v hf, fun W hb => ?_⟩
    rcases run_find h a b W with ⟨h1, h2⟩ | ⟨i, e, h1, h2, h3, h4⟩
    · unfold Instr.mapUpdate
      simp only [Sem.run_bind, run_underlying hT, Result.andThen_ok, MapKept.run_getObj_map hb, key_check, h2, MapKept.run_setObj_map _ hb]
    · rw [hf] at h2; cases h2
  | some u =>
    obtain ⟨i, hi, hk⟩ := h.there a b u hf
    refine ⟨_, clk, h.modify a b v (Array.getElem?_eq_getElem hi) hk, fun W hb => ?_⟩
    rcases run_find h a b W with ⟨h1, h2⟩ | ⟨j, e, h1, h2, h3, h4⟩
    · rw [hf] at h1; cases h1
    · obtain ⟨hj, he⟩ := Array.getElem?_eq_some_iff.1 h1
      have : i = j := h.once i j hi hj (by rw [hk, he, h3])
      subst this
      have hs : (Instr.keyThatStays (((es[i]?).map (·.key)).getD (keyV a b)) (keyV a b)).run Tryz.prog W = .ok (keyV a b) W := by
        rw [h1]
        simp only [Option.map_some, Option.getD_some, h3]
        unfold Instr.keyThatStays
        rw [if_pos (key_bits a b)]; rfl
      unfold Instr.mapUpdate
      simp only [Sem.run_bind, run_underlying hT, Result.andThen_ok, MapKept.run_getObj_map hb, key_check, h4, hs, MapKept.run_setObj_map _ hb]

end Go.Proofs.YtfcgkjbifnhjjaaGreatDoor.St

namespace Go.Proofs.YtfcgkjbifnhjjaaGreatDoor.St
open Go.RowKit
set_option linter.unusedVariables false

theorem kind_range {k n : Int} (h1 : 0 ≤ n) (h2 : n < manyI k) : 1 ≤ k ∧ k ≤ 12 := by
  unfold manyI at h2
  split at h2
  · omega
  · split at h2
    · omega
    · split at h2
      · omega
      · split at h2
        · omega
        · split at h2 <;> omega

theorem ahead_range {k : Int} (h1 : 1 ≤ k) (h2 : k ≤ 12) : 0 ≤ aheadI k ∧ aheadI k ≤ 208 := by
  have := ahead_bounds k.toNat (by omega)
  unfold aheadI
  omega

theorem place_neg (k n : Int) (h : n < 0) (w : World) :
    Calls Tryz.prog 69 #[keyV k n] w fun e w' => e = .returned (.int .i64 (-1)) ∧ Below w.heap.size w w' := by
  go_enter Tryz.func69, Tryz.ntmps69
  go_wp2
  go_quiet (fail)
  go_wp2
  go_ret
  exact ⟨rfl, below_drewN ((Below.refl _ _).alloc (Nat.le_refl _) _) _⟩

theorem place_over (k n : Int) (h : 0 ≤ n) (h2 : manyI k ≤ n) (w : World) :
    Calls Tryz.prog 69 #[keyV k n] w fun e w' => e = .returned (.int .i64 (-1)) ∧ Below w.heap.size w w' := by
  have hd : decide (n < 0) = false := decide_eq_false (by omega)
  have hd2 : decide (manyI k ≤ n) = true := decide_eq_true h2
  clear h2
  go_enter Tryz.func69, Tryz.ntmps69
  go_wp2
  go_quiet ((go_at_call 102; exact quiet_left (many_any _ _)))
  go_wp2
  go_ret
  exact ⟨rfl, below_drewN ((Below.refl _ _).alloc (Nat.le_refl _) _) _⟩

theorem place_yes (k n : Int) (h : 0 ≤ n) (h2 : n < manyI k) (w : World) :
    Calls Tryz.prog 69 #[keyV k n] w fun e w' => e = .returned (.int .i64 (aheadI k + n)) ∧ Below w.heap.size w w' := by
  have hd : decide (n < 0) = false := decide_eq_false (by omega)
  have hd2 : decide (manyI k ≤ n) = false := decide_eq_false (by omega)
  obtain ⟨k1, k2⟩ := kind_range h h2
  have hb := many_bounds k
  have ha := ahead_range k1 k2
  have hn : n ≤ 16 := by omega
  have k3 : k ≤ 13 := by omega
  clear h2 hb
  go_enter Tryz.func69, Tryz.ntmps69
  go_wp2
  go_quiet ((go_at_call 102; exact quiet_left (many_any _ _)))
  go_wp2
  go_quiet ((go_at_call 101; exact quiet_add (ahead_any k k1 k3 _)))
  go_wp2
  go_ret
  exact ⟨rfl, below_drewN (below_drewN ((Below.refl _ _).alloc (Nat.le_refl _) _) _) _⟩

theorem place_any (k n : Int) (w : World) :
    Calls Tryz.prog 69 #[keyV k n] w fun e w' => e = .returned (.int .i64 (placeI k n)) ∧ Below w.heap.size w w' := by
  unfold placeI
  by_cases h1 : n < 0
  · rw [if_pos (Or.inl h1)]; exact place_neg k n h1 w
  · by_cases h2 : manyI k ≤ n
    · rw [if_pos (Or.inr h2)]; exact place_over k n (by omega) h2 w
    · rw [if_neg (by omega)]; exact place_yes k n (by omega) (by omega) w

/-- A key's place is one of 55. -/
theorem place_range (k n : Int) (h : 0 ≤ placeI k n) : 0 ≤ n ∧ n < manyI k ∧ 1 ≤ k ∧ k ≤ 12 ∧ placeI k n = aheadI k + n := by
  unfold placeI at h ⊢
  by_cases c : n < 0 ∨ manyI k ≤ n
  · rw [if_pos c] at h; omega
  · rw [if_neg c] at h ⊢
    have h1 : 0 ≤ n := by omega
    have h2 : n < manyI k := by omega
    obtain ⟨k1, k2⟩ := kind_range h1 h2
    exact ⟨h1, h2, k1, k2, rfl⟩

end Go.Proofs.YtfcgkjbifnhjjaaGreatDoor.St
