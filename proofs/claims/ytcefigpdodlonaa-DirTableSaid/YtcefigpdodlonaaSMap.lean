/- A map of numbers by texts that the call itself made, as a plain function. No condition but those written in each statement. -/
import Derived.Test.YtcefigpdodlonaaStd
import Derived.Maps.OwnSet
import Derived.Maps.Views
import Derived.StringKeys
namespace Go.Proofs.Ytcefigpdodlonaa.St
open Go.RowKit Go.Maps
set_option linter.unusedVariables false

theorem str_keyed : Keyed Try.prog 9 := string_keyed Try.underlying9
theorem zero_int (w : World) : (zeroValue 3).run Try.prog w = .ok (.int .i64 0) w := by kernel_rfl

/-- Block B is a map of n entries that holds what f says. -/
def SM (W : World) (B : Nat) (f : ByteArray → Option Int) (n : Nat) : Prop := ∃ (D : DataW Unit) (m : Nat), W.ownsMap Try.prog 9 (plainElem Try.prog 3) B m D ∧ m ≤ 1000 ∧ Maps.size D = n ∧
  ∀ s : ByteArray, s.size ≤ 1000 → Maps.has D (.string s.data.toList) = (f s).isSome ∧ ∀ v, f s = some v → D.atKey (.string s.data.toList) (.lit (.int .i64 0)) = .lit (.int .i64 v)
def updS (f : ByteArray → Option Int) (s : ByteArray) (v : Int) : ByteArray → Option Int := fun x => if x = s then some v else f x
def delS (f : ByteArray → Option Int) (s : ByteArray) : ByteArray → Option Int := fun x => if x = s then none else f x

theorem key_of {s : ByteArray} (hs : s.size ≤ 1000) : keyOf Try.prog 9 (.string s) = some (.string s.data.toList) := Go.WideMaps.keyOf_string_mk Try.underlying9 (by unfold maxLen; omega)
theorem lit_ne {s x : ByteArray} (h : x ≠ s) : (Lit.string x.data.toList) ≠ .string s.data.toList := by
  intro e
  exact h (Go.WideShapes.bytes_inj (by simpa using e))

theorem SM.made (w : World) : SM (w.alloc (.map #[] 0)) w.heap.size (fun _ => none) 0 :=
  ⟨.map [], 0, World.ownsMap_made _ _ _ _, by decide, rfl, fun s _ => ⟨rfl, fun v h => by cases h⟩⟩
theorem SM.lt {W : World} {B : Nat} {f : ByteArray → Option Int} {n : Nat} (h : SM W B f n) : B < W.heap.size := by
  obtain ⟨D, m, h1, _⟩ := h; exact h1.lt
theorem SM.keep {W W' : World} {B : Nat} {f : ByteArray → Option Int} {n : Nat} (h : SM W B f n) (e : W'.heap[B]? = W.heap[B]?) : SM W' B f n := by
  obtain ⟨D, m, ⟨es, ck, h1, h2⟩, h3⟩ := h
  exact ⟨D, m, ⟨es, ck, e.trans h1, h2⟩, h3⟩
theorem SM.below {W W' : World} {B : Nat} {f : ByteArray → Option Int} {n : Nat} (h : SM W B f n) (hb : Below W.heap.size W W') : SM W' B f n := h.keep (hb.block B h.lt)
theorem SM.look {W : World} {B : Nat} {f : ByteArray → Option Int} {n : Nat} (h : SM W B f n) (s : ByteArray) (hs : s.size ≤ 1000) :
    ∃ x : Int, (Instr.lookup 45 (.map (some B)) (.string s) true).run Try.prog W = .ok (.tuple #[.int .i64 x, .bool (f s).isSome]) W ∧ ∀ v, f s = some v → x = v := by
  obtain ⟨D, m, h1, h2, h3, h4⟩ := h
  obtain ⟨v, ps, hrun, hv⟩ := h1.look_ok str_keyed Try.underlying45 (zero_int _) (plainElem_int Try.underlying3 (by decide)) (key_of hs)
  obtain ⟨c, rfl, hc, _⟩ := plainElem_int_inv Try.underlying3 hv
  rw [(h4 s hs).1] at hrun
  refine ⟨c, hrun, fun v hf => ?_⟩
  have := (h4 s hs).2 v hf
  have e := congrArg Prod.fst hc
  simp only at e
  rw [this] at e
  simpa using e.symm
theorem SM.len {W : World} {B : Nat} {f : ByteArray → Option Int} {n : Nat} (h : SM W B f n) (ty : TypeId) : (Builtin.len_ #[45] ty #[.map (some B)]).run Try.prog W = .ok (.int .i64 n) W := by
  obtain ⟨D, m, h1, h2, h3, h4⟩ := h
  rw [← h3]; exact h1.len Try.underlying45 ty
theorem str_key (s : ByteArray) : WideAt.IsKeyLit (.string s.data.toList) := trivial
theorem SM.del {W : World} {B : Nat} {f : ByteArray → Option Int} {n : Nat} (h : SM W B f n) (s : ByteArray) (hs : s.size ≤ 1000) (ty : TypeId) :
    ∃ W', (Builtin.delete_ #[45, 9] ty #[.map (some B), .string s]).run Try.prog W = .ok (.tuple #[]) W' ∧ SM W' B (delS f s) (if (f s).isSome then n - 1 else n) ∧ W.mapTurned W' B := by
  obtain ⟨D, m, h1, h2, h3, h4⟩ := h
  obtain ⟨W', hrun, hown, ht⟩ := h1.drop str_keyed Try.underlying45 (key_of hs) ty
  refine ⟨W', hrun, ⟨_, m, hown, h2, ?_, fun x hx => ?_⟩, ht⟩
  · have := Maps.size_del (k := .string s.data.toList) (h1.tidy str_keyed)
    rw [(h4 s hs).1] at this
    cases hf : (f s).isSome
    · rw [hf] at this; simp at this ⊢; omega
    · rw [hf] at this; simp at this ⊢; omega
  · unfold delS
    by_cases e : x = s
    · subst e
      rw [if_pos rfl, Maps.has_del_same]
      exact ⟨rfl, fun v h => by cases h⟩
    · rw [if_neg e, Maps.has_del_other (lit_ne e), Maps.atKey_del_other (lit_ne e)]
      exact h4 x hx
theorem SM.put {W : World} {B : Nat} {f : ByteArray → Option Int} {n : Nat} (h : SM W B f n) (hn : n ≤ 900) (s : ByteArray) (hs : s.size ≤ 1000) (v : Int) (hv : (Lit.int .i64 v).wf = true) :
    ∃ W', (Instr.mapUpdate 45 (.map (some B)) (.string s) (.int .i64 v)).run Try.prog W = .ok () W' ∧ SM W' B (updS f s v) (if (f s).isSome then n else n + 1) ∧ W.mapTurned W' B := by
  obtain ⟨D, m, h1, h2, h3, h4⟩ := h
  obtain ⟨W', hrun, hown, ht⟩ := h1.store (d := .lit (.int .i64 v)) (ps := []) str_keyed Try.underlying45 (by unfold maxLen; omega) (key_of hs) (plainElem_int Try.underlying3 hv)
  have ht2 := h1.tidy str_keyed
  have hsz := Maps.size_put (k := .string s.data.toList) ht2 (.lit (.int .i64 v))
  rw [(h4 s hs).1, h3] at hsz
  have hn2 : Maps.size (D.put (.string s.data.toList) (.lit (.int .i64 v))) ≤ 901 := by rw [hsz]; split <;> omega
  obtain ⟨es, ck, q1, q2, q3, q4⟩ := hown
  refine ⟨W', hrun, ⟨_, 901, ⟨es, ck, q1, q2, ?_, q4⟩, by decide, hsz, fun x hx => ?_⟩, ht⟩
  · have e := hn2
    rw [q4, Maps.size_eq, length_read] at e
    exact e
  · unfold updS
    by_cases e : x = s
    · subst e
      rw [if_pos rfl, Maps.has_put_same ht2.isMap (str_key _), Maps.atKey_put_same ht2.isMap (str_key _)]
      exact ⟨rfl, fun u h => by cases h; rfl⟩
    · rw [if_neg e, Maps.has_put_other (lit_ne e), Maps.atKey_put_other (lit_ne e)]
      exact h4 x hx

/-- Where only such a block has turned. -/
theorem turn_map {W W' : World} {B : Nat} (h : W.mapTurned W' B) : Turn (· = B) W W' := by
  have g := h.grown
  exact ⟨g.os, g.tape, g.output, g.size, fun i hi hn => g.block i hi (fun e => hn (by simpa using e))⟩
theorem Std.off {w W W' : World} {t : Nat} {L : Lay} {d q : Nat} {st : VSt} (S : Std w t L d q st W) {B : Nat} (h : Turn (· = B) W W') (hb : w.heap.size ≤ B) (hl : L.v ≠ B ∧ L.s ≠ B ∧ L.l ≠ B ∧ L.r ≠ B ∧ L.m ≠ B) (ht : t ≠ B) : Std w t L d q st W' := by
  refine ⟨S.v.keep h ?_, blk_of_turn h S.t (fun e => ht e), S.b.trans (h.below (B := w.heap.size) S.b.size (fun i p => by have : i = B := p; omega)), S.r, S.m⟩
  rintro i rfl
  obtain ⟨a, b, c, e, f⟩ := hl
  exact ⟨Ne.symm a, Ne.symm b, Ne.symm c, Ne.symm e, Ne.symm f⟩
end Go.Proofs.Ytcefigpdodlonaa.St
