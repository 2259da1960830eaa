/- Lists of keys that are the call's own: appending a list to a list. No condition but those written in each statement. -/
import Derived.Test.YtfcgkjbifnhjjaaKeyPM
import Derived.Laws.OwnMore
namespace Go.Proofs.Ytfcgkjbifnhjjaa.St
open Go.RowKit
set_option linter.unusedVariables false

/-- A list of n keys in blocks from B on. -/
def KL (B : Nat) (W : World) (v : Value) (n : Nat) (z : Nat → Int × Int) : Prop := W.ownsRow B 51 2 v n (kcells z n)
theorem KL.nil (B : Nat) (W : World) (z : Nat → Int × Int) : KL B W (.slice none 0 0) 0 z := World.ownsRow_nil _ _ _ _
theorem KL.keep {B : Nat} {W W' : World} {v : Value} {n : Nat} {z : Nat → Int × Int} (h : KL B W v n z) (hb : ∀ g, B ≤ g → g < W.heap.size → W'.heap[g]? = W.heap[g]?) : KL B W' v n z := by
  refine ⟨h.1, ?_⟩
  rcases h.2 with q | ⟨g, cap, cur, h1, h2, h3, h4⟩
  · exact Or.inl q
  · exact Or.inr ⟨g, cap, cur, h1, h2, (hb g h2 (lt_of_heap h3)).trans h3, h4⟩
theorem KL.below {B : Nat} {W W' : World} {v : Value} {n : Nat} {z : Nat → Int × Int} (h : KL B W v n z) (hb : Below W.heap.size W W') : KL B W' v n z := h.keep fun g _ hg => hb.block g hg
theorem KL.mono {B C : Nat} {W : World} {v : Value} {n : Nat} {z : Nat → Int × Int} (h : KL B W v n z) (hc : C ≤ B) : KL C W v n z := own_mono h hc
theorem KL.kr {B : Nat} {W : World} {v : Value} {n : Nat} {z : Nat → Int × Int} (h : KL B W v n z) : ∃ a c, v = .slice a n c ∧ KR W a n z ∧ (a = none → n = 0 ∧ c = 0) ∧ n ≤ c := by
  rcases h.2 with ⟨rfl, rfl⟩ | ⟨g, cap, cur, rfl, _, _, hnc, _⟩
  · exact ⟨none, 0, rfl, fun i hi => absurd hi (by omega), fun _ => ⟨rfl, rfl⟩, by omega⟩
  · refine ⟨_, _, rfl, fun i hi => ⟨_, rfl, ?_, ?_⟩, fun q => by (cases q), hnc⟩
    · exact World.ownsRow.cells h (g := g) rfl _ _ (kcells_at z n i hi).1
    · rw [← add_field _ _ 1 (by omega)]
      exact World.ownsRow.cells h (g := g) rfl _ _ (kcells_at z n i hi).2
theorem kcells_congr {z y : Nat → Int × Int} : ∀ n, (∀ i, i < n → z i = y i) → kcells z n = kcells y n
  | 0, _ => rfl
  | n + 1, h => by rw [kcells, kcells, kcells_congr n (fun i hi => h i (by omega)), h n (by omega)]
theorem KL.congr {B : Nat} {W : World} {v : Value} {n : Nat} {z y : Nat → Int × Int} (h : KL B W v n z) (e : ∀ i, i < n → y i = z i) : KL B W v n y := by
  unfold KL; rw [kcells_congr n e]; exact h
/-- One list behind the other. -/
def catF (z : Nat → Int × Int) (n : Nat) (y : Nat → Int × Int) : Nat → Int × Int := fun i => if i < n then z i else y (i - n)
theorem kcells_cat (z y : Nat → Int × Int) (n : Nat) : ∀ m, kcells z n ++ kcells y m = kcells (catF z n y) (n + m)
  | 0 => by
    rw [kcells, List.append_nil]
    exact kcells_congr n fun i hi => by unfold catF; rw [if_pos hi]
  | m + 1 => by
    rw [kcells, ← List.append_assoc, kcells_cat z y n m]
    show _ = kcells (catF z n y) (n + m) ++ [.int .i64 (catF z n y (n + m)).1, .int .i64 (catF z n y (n + m)).2]
    congr 1
    have e : catF z n y (n + m) = y m := by
      unfold catF
      rw [if_neg (by omega), Nat.add_sub_cancel_left]
    rw [e]
theorem KR.congr {W : World} {a : Option Addr} {n : Nat} {z y : Nat → Int × Int} (h : KR W a n z) (e : ∀ i, i < n → y i = z i) : KR W a n y := fun i hi => by
  rw [e i hi]; exact h i hi
theorem kl_append {B : Nat} {W : World} {v : Value} {n m : Nat} {z y : Nat → Int × Int} (h : KL B W v n z) (hB : B ≤ W.heap.size) (a : Option Addr) (cap : Nat) (hs : KR W a m y) (h0 : a = none → m = 0 ∧ cap = 0) (hl : n + m ≤ 10000) (ty : TypeId) :
    ∃ v' W', (Builtin.append_ #[91, 91] ty #[v, .slice a m cap]).run Try.prog W = .ok v' W' ∧ KL B W' v' (n + m) (catF z n y) ∧ Below B W W' ∧ W.grownBy W' v.ownBlock ∧ (v' = .slice none 0 0 → v = .slice none 0 0) := by
  obtain ⟨i1, hi, hz0, hz1, hz2⟩ := info_parts info_key
  cases a with
  | none =>
    obtain ⟨rfl, rfl⟩ := h0 rfl
    have := run_append_owned_none (P := Try.prog) (w := W) B 91 ty 51 i1 2 Try.underlying91 hi v _ _ h
    exact ⟨v, W, this, h.congr fun i hi => by unfold catF; rw [if_pos (by omega)], Below.refl _ _, World.grownBy.refl _ _, id⟩
  | some x =>
    obtain ⟨v', W', h1, h2, h3, h5⟩ := run_append_own (P := Try.prog) (w := W) B 91 ty 51 i1 (.agg #[.int .i64 0, .int .i64 0]) 2 16 Try.underlying91 hi hz0 hz1 hz2 rfl (by decide) v n (kcells z n) h x m cap (kcells y m) (kcells_len y m)
      (kcells_src hs) (kcells_one y m) (by unfold maxLen; omega) (by omega) hB
    rw [kcells_cat] at h2
    exact ⟨v', W', h1, h2, (Below.refl B W).grown h3 hB (fun j hj => (World.ownsRow.lt h j hj).1), h3, fun q => (h5.1 q).1⟩
theorem wp_run_append {P : Program} {w : World} {o : Oper} {a : Act} {K : Act → World → Prop} {Q : Exit → Act → World → Prop} (s x : Operand) (t : TypeId) (ho : o.op = .call { callee := .builtin .append, args := #[s, x], argTypes := #[t, t] }) {v u v' : Value} {w' : World} (hs : a.eval s = v) (hx : a.eval x = u)
    (hr : (Builtin.append_ #[t, t] o.type #[v, u]).run P w = .ok v' w') (h : K (a.put o.dst v') w') : o.wp P a w K Q := by
  unfold Oper.wp execOp
  simp only [ho, resolve, invoke, builtin, Sem.run_bind, Sem.run_pure, Result.andThen_ok, List.map_toArray, List.map_cons, List.map_nil, hs, hx, hr]
  exact h
theorem wpList_run_append {P : Program} {w : World} {ops : Array Oper} {rest : List Oper} {o : Oper} {a : Act} {Q : Exit → Act → World → Prop} (hgd : o.guard = none) (s x : Operand) (t : TypeId) (ho : o.op = .call { callee := .builtin .append, args := #[s, x], argTypes := #[t, t] }) {v u v' : Value} {w' : World} (hs : a.eval s = v) (hx : a.eval x = u)
    (hr : (Builtin.append_ #[t, t] o.type #[v, u]).run P w = .ok v' w') (h : wpList P ops Q rest (a.put o.dst v') w') : wpList P ops Q (o :: rest) a w :=
  wpList_plain hgd fun _ hK => wp_run_append s x t ho hs hx hr (hK _ _ h)
end Go.Proofs.Ytfcgkjbifnhjjaa.St
