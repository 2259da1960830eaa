/- A map of numbers by numbers that a law makes, as a plain function; a list that is appended to a list; parts of a list. No condition but those written in each statement. -/
import Derived.Test.YtdlcbclfniahoaaDoorSpP
import Derived.Maps.OwnSet
import Derived.Maps.Views
import Derived.Laws.OwnMore
namespace Go.Proofs.YtdlcbclfniahoaaDoor.St
open Go.RowKit Go.Maps
set_option linter.unusedVariables false

theorem int_law : Keyed Tryd.prog 3 := int_keyed Tryd.underlying3
theorem zero_int (w : World) : (zeroValue 3).run Tryd.prog w = .ok (.int .i64 0) w := by kernel_rfl
/-- Block B is a map of at most n entries that says c. -/
def CM (W : World) (B : Nat) (c : Nat → Nat) (n : Nat) : Prop := ∃ D : DataW Unit, W.ownsMap Tryd.prog 3 (plainElem Tryd.prog 3) B n D ∧ n ≤ 1000 ∧
  ∀ x : Nat, x < 64 → D.atKey (.int .i64 x) (.lit (.int .i64 0)) = .lit (.int .i64 (c x))
theorem CM.made (w : World) : CM (w.alloc (.map #[] 0)) w.heap.size (fun _ => 0) 0 :=
  ⟨.map [], World.ownsMap_made _ _ _ _, by decide, fun x _ => rfl⟩
theorem CM.lt {W : World} {B : Nat} {c : Nat → Nat} {n : Nat} (h : CM W B c n) : B < W.heap.size := by
  obtain ⟨D, h1, _⟩ := h; exact h1.lt
theorem CM.keep {W W' : World} {B : Nat} {c : Nat → Nat} {n : Nat} (h : CM W B c n) (e : W'.heap[B]? = W.heap[B]?) : CM W' B c n := by
  obtain ⟨D, ⟨es, ck, h1, h2⟩, h3⟩ := h
  exact ⟨D, ⟨es, ck, e.trans h1, h2⟩, h3⟩
theorem CM.below {W W' : World} {B : Nat} {c : Nat → Nat} {n : Nat} (h : CM W B c n) (hb : Below W.heap.size W W') : CM W' B c n := h.keep (hb.block B h.lt)
theorem CM.congr {W : World} {B : Nat} {c c' : Nat → Nat} {n : Nat} (h : CM W B c n) (e : ∀ x, x < 64 → c' x = c x) : CM W B c' n := by
  obtain ⟨D, h1, h2, h3⟩ := h
  exact ⟨D, h1, h2, fun x hx => by rw [e x hx]; exact h3 x hx⟩
theorem wf_nat (x : Nat) (h : x < 100000) : (Lit.int .i64 (x : Int)).wf = true := by apply WalkArith.wf_i64 <;> omega
theorem CM.look {W : World} {B : Nat} {c : Nat → Nat} {n : Nat} (h : CM W B c n) (x : Nat) (hx : x < 64) :
    (Instr.lookup 49 (.map (some B)) (.int .i64 x) false).run Tryd.prog W = .ok (.int .i64 (c x)) W := by
  obtain ⟨D, h1, h2, h3⟩ := h
  obtain ⟨v, ps, hrun, hv⟩ := h1.lookup int_law Tryd.underlying49 (zero_int _) (plainElem_int Tryd.underlying3 (by decide)) (keyOf_int_mk Tryd.underlying3 (wf_nat x (by omega)))
  obtain ⟨b, rfl, hc, _⟩ := plainElem_int_inv Tryd.underlying3 hv
  have e := congrArg Prod.fst hc
  simp only at e
  rw [h3 x hx] at e
  have : (c x : Int) = b := by simpa using e
  rw [this]; exact hrun
theorem CM.put {W : World} {B : Nat} {c : Nat → Nat} {n : Nat} (h : CM W B c n) (hn : n < 1000) (x : Nat) (hx : x < 64) (v : Nat) (hv : v < 100000) :
    ∃ W', (Instr.mapUpdate 49 (.map (some B)) (.int .i64 x) (.int .i64 v)).run Tryd.prog W = .ok () W' ∧ CM W' B (fun j => if j = x then v else c j) (n + 1) ∧ Turn (· = B) W W' := by
  obtain ⟨D, h1, h2, h3⟩ := h
  have hm := (h1.tidy int_law).isMap
  obtain ⟨W', hrun, hown, ht⟩ := h1.update (d := .lit (.int .i64 v)) (ps := []) int_law Tryd.underlying49 (by unfold maxLen; omega) (keyOf_int_mk Tryd.underlying3 (wf_nat x (by omega))) (plainElem_int Tryd.underlying3 (wf_nat v hv))
  refine ⟨W', hrun, ⟨_, hown, by omega, fun y hy => ?_⟩, ⟨ht.os, ht.tape, ht.output, ht.size, fun i hi hn => ht.block i hi (fun e => hn (by simpa using e))⟩⟩
  by_cases e : y = x
  · subst e
    rw [Maps.atKey_put_same hm (show WideAt.IsKeyLit (.int .i64 _) from trivial)]
    simp
  · rw [Maps.atKey_put_other (by intro q; simp at q; omega), h3 y hy]
    simp [e]

/-! ### Lists -/
theorem add_add (x : Addr) (i j : Nat) : (x.add i).add j = x.add (i + j) := by
  unfold Addr.add
  by_cases h : i = 0
  · subst h; simp
  · by_cases h2 : j = 0
    · subst h2; simp [h]
    · simp [h, h2, Nat.add_assoc]
theorem NR.drop {W : World} {x : Addr} {zs : List Int} (h : NR W (some x) zs) (k : Nat) : NR W (some (x.add k)) (zs.drop k) := fun i hi => by
  have hi2 : k + i < zs.length := by rw [List.length_drop] at hi; omega
  obtain ⟨y, e, c⟩ := h (k + i) hi2
  cases e
  exact ⟨_, rfl, by rw [add_add, List.getElem_drop]; exact c⟩
theorem NR.take {W : World} {a : Option Addr} {zs : List Int} (h : NR W a zs) (k : Nat) : NR W a (zs.take k) := fun i hi => by
  have hi2 : i < zs.length := by rw [List.length_take] at hi; omega
  obtain ⟨x, e, c⟩ := h i hi2
  exact ⟨x, e, by rw [List.getElem_take]; exact c⟩
theorem il_append {B : Nat} {W : World} {v : Value} {wl ps : List Int} (h : IL B W v wl) (hB : B ≤ W.heap.size) (a : Option Addr) (cap : Nat) (hn : NR W a ps) (h0 : a = none → ps = [] ∧ cap = 0) (hl : wl.length + ps.length ≤ 10000) (ty : TypeId) :
    ∃ v' W', (Builtin.append_ #[31, 31] ty #[v, .slice a ps.length cap]).run Tryd.prog W = .ok v' W' ∧ IL B W' v' (wl ++ ps) ∧ Below B W W' ∧ (W.grownBy W' v.ownBlock) := by
  obtain ⟨i0, hi, hz0, hz1, hz2⟩ := info_parts info_int
  cases a with
  | none =>
    obtain ⟨rfl, rfl⟩ := h0 rfl
    have := run_append_owned_none (P := Tryd.prog) (w := W) B 31 ty 3 i0 1 Tryd.underlying31 hi v _ _ h
    exact ⟨v, W, this, by rw [List.append_nil]; exact h, Below.refl _ _, World.grownBy.refl _ _⟩
  | some x =>
    obtain ⟨v', W', h1, h2, h3, _⟩ := run_append_own (P := Tryd.prog) (w := W) B 31 ty 3 i0 (.int .i64 0) 1 8 Tryd.underlying31 hi hz0 hz1 hz2 rfl (by decide) v wl.length (wl.map (Value.int .i64)) h x ps.length cap (ps.map (Value.int .i64)) (by simp)
      (by
        intro j u hj
        rw [List.getElem?_map] at hj
        have hj2 : j < ps.length := by
          rcases Nat.lt_or_ge j ps.length with q | q
          · exact q
          · rw [List.getElem?_eq_none q] at hj; cases hj
        rw [List.getElem?_eq_getElem hj2] at hj
        obtain ⟨y, e, c⟩ := hn j hj2
        cases e
        rw [c, ← hj]; rfl)
      (by intro u hu; obtain ⟨z, _, rfl⟩ := List.mem_map.1 hu; rfl) (by unfold maxLen; omega) (by omega) hB
    refine ⟨v', W', h1, ?_, ?_, h3⟩
    · rw [← List.map_append] at h2
      unfold IL
      rw [List.length_append]
      exact h2
    · exact (Below.refl B W).grown h3 hB (fun j hj => (World.ownsRow.lt h j hj).1)
theorem wp_run_append {P : Program} {w : World} {o : Oper} {a : Act} {K : Act → World → Prop} {Q : Exit → Act → World → Prop} (s x : Operand) (t : TypeId) (ho : o.op = .call { callee := .builtin .append, args := #[s, x], argTypes := #[t, t] }) {v u v' : Value} {w' : World} (hs : a.eval s = v) (hx : a.eval x = u)
    (hr : (Builtin.append_ #[t, t] o.type #[v, u]).run P w = .ok v' w') (h : K (a.put o.dst v') w') : o.wp P a w K Q := by
  unfold Oper.wp execOp
  simp only [ho, resolve, invoke, builtin, Sem.run_bind, Sem.run_pure, Result.andThen_ok, List.map_toArray, List.map_cons, List.map_nil, hs, hx, hr]
  exact h
theorem wpList_run_append {P : Program} {w : World} {ops : Array Oper} {rest : List Oper} {o : Oper} {a : Act} {Q : Exit → Act → World → Prop} (hgd : o.guard = none) (s x : Operand) (t : TypeId) (ho : o.op = .call { callee := .builtin .append, args := #[s, x], argTypes := #[t, t] }) {v u v' : Value} {w' : World} (hs : a.eval s = v) (hx : a.eval x = u)
    (hr : (Builtin.append_ #[t, t] o.type #[v, u]).run P w = .ok v' w') (h : wpList P ops Q rest (a.put o.dst v') w') : wpList P ops Q (o :: rest) a w :=
  wpList_plain hgd fun _ hK => wp_run_append s x t ho hs hx hr (hK _ _ h)
end Go.Proofs.YtdlcbclfniahoaaDoor.St
