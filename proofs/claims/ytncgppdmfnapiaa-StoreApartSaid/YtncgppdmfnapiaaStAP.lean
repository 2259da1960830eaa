/- What cloisterlaw8.StoreApart stands on: writes of keys apart come to the same in whatever order; lists of writes, appended, and cut in front. No condition but those written in each statement. -/
import Derived.Test.YtncgppdmfnapiaaAskL
import Derived.Test.YtncgppdmfnapiaaStPB
import Derived.Test.YtncgppdmfnapiaaKeyW1
import Derived.Test.YtncgppdmfnapiaaKeyAp
namespace Go.Proofs.Ytncgppdmfnapiaa.St
open Go.RowKit
set_option linter.unusedVariables false
/-! ### Plain -/
theorem updB_comm (base : Nat → Val) (p q : Nat) (x y : Val) (h : p ≠ q) : updB (updB base p x) q y = updB (updB base q y) p x := by
  funext i
  unfold updB
  by_cases h1 : i = p
  · by_cases h2 : i = q
    · omega
    · simp [h1, h]
  · by_cases h2 : i = q
    · simp [h2, Ne.symm h]
    · simp [h1, h2]
theorem storePut_comm (base : Nat → Val) (k n : Int) (x : Val) (k' n' : Int) (x' : Val) (h : placeI k n ≠ placeI k' n') : storePut (storePut base k n x) k' n' x' = storePut (storePut base k' n' x') k n x := by
  unfold storePut
  by_cases h1 : placeI k n < 0
  · simp [h1]
  · by_cases h2 : placeI k' n' < 0
    · simp [h2]
    · rw [if_neg h1, if_neg h2, if_neg h1, if_neg h2]
      exact updB_comm _ _ _ _ _ (by omega)
theorem putAll_app (base : Nat → Val) (a b : List Wr) : putAll base (a ++ b) = putAll (putAll base a) b := by
  unfold putAll; rw [List.foldl_append]
theorem putAll_cons (base : Nat → Val) (y : Wr) (l : List Wr) : putAll base (y :: l) = putAll (storePut base y.1.1 y.1.2 y.2) l := rfl
theorem put_past : ∀ (l : List Wr) (base : Nat → Val) (k n : Int) (x : Val), (∀ y ∈ l, placeI y.1.1 y.1.2 ≠ placeI k n) → storePut (putAll base l) k n x = putAll (storePut base k n x) l
  | [], _, _, _, _, _ => rfl
  | y :: l, base, k, n, x, h => by
    rw [putAll_cons, putAll_cons, put_past l _ k n x (fun z hz => h z (List.mem_cons_of_mem _ hz)), storePut_comm _ _ _ _ _ _ _ (h y (List.mem_cons_self ..))]
/-- No key of the one is one of the other. -/
def Dis (p q : List Wr) : Prop := ∀ a ∈ p, ∀ b ∈ q, placeI a.1.1 a.1.2 ≠ placeI b.1.1 b.1.2
theorem Dis.left {y : Wr} {p q : List Wr} (h : Dis (y :: p) q) : Dis p q := fun a ha b hb => h a (List.mem_cons_of_mem _ ha) b hb
theorem Dis.right {y : Wr} {p q : List Wr} (h : Dis p (y :: q)) : Dis p q := fun a ha b hb => h a ha b (List.mem_cons_of_mem _ hb)
theorem put_first (ub : Nat → Val) (y : Wr) (p q : List Wr) (h : Dis p (y :: q)) : putAll (storePut ub y.1.1 y.1.2 y.2) (p ++ q) = putAll ub (p ++ y :: q) := by
  rw [putAll_app, putAll_app, putAll_cons, put_past p ub _ _ _ (fun a ha => h a ha y (List.mem_cons_self ..))]
theorem wr_at {st : VSt} {a : Wr} (h : a ∈ wrL st) : ∃ p, 0 ≤ p ∧ placeI a.1.1 a.1.2 = p ∧ a.1 = keyP p ∧ (st.wr a.1.1 a.1.2).isSome = true := by
  unfold wrL at h
  obtain ⟨p, hp, rfl⟩ := List.mem_map.1 h
  obtain ⟨h0, h1, h2⟩ := (plF_mem _ _).1 hp
  obtain ⟨n, rfl⟩ := Int.eq_ofNat_of_zero_le h0
  exact ⟨_, h0, place_keyP n (by omega), rfl, h2⟩
theorem dis_of {a b : VSt} (h : ∀ k n, (b.wr k n).isSome = true → a.wr k n = none) : Dis (wrL a) (wrL b) := fun x hx y hy e => by
  obtain ⟨p, _, h1, h2, h3⟩ := wr_at hx
  obtain ⟨q, _, g1, g2, g3⟩ := wr_at hy
  have hpq : p = q := by rw [← h1, ← g1]; exact e
  subst hpq
  rw [g2, ← h2] at g3
  rw [h _ _ g3] at h3
  cases h3
/-- A key that key.Within tells not to be among those read or written was not written. -/
theorem not_within {st : VSt} {k n : Int} (h : ¬ kWithin (fun _ => (k, n)) 1 (sk (ftP st)) (ftP st).length) : 0 ≤ placeI k n ∧ st.wr k n = none := by
  have h1 : kLacks (sk (ftP st)) (ftP st).length k n = true := by
    cases hl : kLacks (sk (ftP st)) (ftP st).length k n with
    | true => rfl
    | false => exact absurd (fun i _ => hl) h
  unfold kLacks at h1
  rw [Bool.and_eq_true] at h1
  have h0 : 0 ≤ placeI k n := by simpa using h1.1
  refine ⟨h0, ?_⟩
  cases hw : st.wr k n with
  | none => rfl
  | some x =>
    exfalso
    have hm : placeI k n ∈ ftP st := (plF_mem _ _).2 ⟨h0, place_lt _ _, by rw [keyP_place _ _ h0]; simp [hw]⟩
    obtain ⟨i, hi, he⟩ := List.getElem_of_mem hm
    have hh : kHas (sk (ftP st)) (ftP st).length (k, n) := ⟨i, hi, by rw [sk_get _ i hi, he]; exact keyP_place _ _ h0⟩
    have := h1.2
    rw [decide_eq_true hh] at this
    cases this
/-! ### Lists of writes -/
theorem wcL_mem : ∀ {l : List Wr} {u : Value}, u ∈ wcL l → ∃ y ∈ l, u ∈ wcs y
  | y :: l, u, h => by
    rcases List.mem_append.1 (show u ∈ wcs y ++ wcL l from h) with h | h
    · exact ⟨y, List.mem_cons_self .., h⟩
    · obtain ⟨z, hz, hu⟩ := wcL_mem h
      exact ⟨z, List.mem_cons_of_mem _ hz, hu⟩
theorem WL.base {B : Nat} {W : World} {a : Option Addr} {n c : Nat} {l : List Wr} (h : WL B W (.slice a n c) l) : (a = none ∧ c = 0 ∧ l = []) ∨ ∃ g, a = some ⟨g, 0, none⟩ := by
  rcases h.2 with ⟨h1, h2⟩ | ⟨g, cap, cur, h1, _⟩
  · obtain ⟨e1, e2, e3⟩ := Value.slice.inj h1
    exact Or.inl ⟨e1, e3, List.length_eq_zero_iff.1 h2⟩
  · obtain ⟨e1, e2, e3⟩ := Value.slice.inj h1
    exact Or.inr ⟨g, e1⟩
theorem wl_append {B C : Nat} {W : World} {v : Value} {l l2 : List Wr} (h : WL B W v l) (hB : B ≤ W.heap.size) {a : Option Addr} {cap : Nat} (hs : WL C W (.slice a l2.length cap) l2) (hl : l.length + l2.length ≤ 10000) (ty : TypeId) :
    ∃ v' W', (Builtin.append_ #[54, 54] ty #[v, .slice a l2.length cap]).run Try.prog W = .ok v' W' ∧ WL B W' v' (l ++ l2) ∧ Below B W W' ∧ W.grownBy W' v.ownBlock := by
  obtain ⟨i1, hi, hz0, hz1, hz2⟩ := info_parts info_write
  rcases hs.base with ⟨rfl, rfl, rfl⟩ | ⟨g, rfl⟩
  · have := run_append_owned_none (P := Try.prog) (w := W) B 54 ty 53 i1 19 Try.underlying54 hi v _ _ h
    exact ⟨v, W, this, by rw [List.append_nil]; exact h, Below.refl _ _, World.grownBy.refl _ _⟩
  · obtain ⟨v', W', h1, h2, h3, h5⟩ := run_append_own (P := Try.prog) (w := W) B 54 ty 53 i1 (.agg (wcells 0 0 Val.zero)) 19 160 Try.underlying54 hi hz0 hz1 hz2 rfl (by decide) v l.length (wcL l) h ⟨g, 0, none⟩ l2.length cap (wcL l2) (wcL_len l2)
      (fun j u hj => World.ownsRow.cells hs (g := g) rfl j u hj) (fun u hu => by
        obtain ⟨y, hy, hu⟩ := wcL_mem hu
        have := wcells_one y.1.1 y.1.2 y.2
        rw [Array.all_eq_true'] at this
        exact this u (by unfold wcs at hu; simpa using hu)) (by unfold maxLen; omega) (by omega) hB
    refine ⟨v', W', h1, ?_, (Below.refl B W).grown h3 hB (fun j hj => (World.ownsRow.lt h j hj).1), h3⟩
    unfold WL
    rw [wcL_app, List.length_append]
    exact h2
/-- A slice of writes, somewhere within a block. -/
def SW (W : World) (v : Value) (l : List Wr) : Prop := ∃ a c, v = .slice a l.length c ∧ l.length ≤ c ∧ ∀ i (hi : i < l.length), ∃ g o cur, a = some ⟨g, o, none⟩ ∧ blk W g = some (.cells cur 53 (0, 0)) ∧ cur.extract (o + i * 19) (o + i * 19 + 19) = wcells l[i].1.1 l[i].1.2 l[i].2
theorem WL.sw {B : Nat} {W : World} {v : Value} {l : List Wr} (h : WL B W v l) : SW W v l := by
  obtain ⟨a, c, rfl, h1, h2⟩ := h.form
  refine ⟨a, c, rfl, h1, fun i hi => ?_⟩
  obtain ⟨g, cur, e, h3, h4⟩ := h2 i hi
  exact ⟨g, 0, cur, e, h3, by rw [Nat.zero_add]; exact h4⟩
theorem SW.below {W W' : World} {v : Value} {l : List Wr} (h : SW W v l) (hb : Below W.heap.size W W') : SW W' v l := by
  obtain ⟨a, c, rfl, h1, h2⟩ := h
  refine ⟨a, c, rfl, h1, fun i hi => ?_⟩
  obtain ⟨g, o, cur, e, h3, h4⟩ := h2 i hi
  exact ⟨g, o, cur, e, (hb.block g (lt_of_heap h3)).trans h3, h4⟩
/-- A store that is written does not change it. -/
theorem SW.put {W W' : World} {v : Value} {l : List Wr} {s b : Nat} {base : Nat → Val} (h : SW W v l) (hS : StoreAt W s b base) (hT : Turn (· = b) W W') : SW W' v l := by
  obtain ⟨a, c, rfl, h1, h2⟩ := h
  obtain ⟨_, q, _⟩ := hS.cl
  refine ⟨a, c, rfl, h1, fun i hi => ?_⟩
  obtain ⟨g, o, cur, e, h3, h4⟩ := h2 i hi
  refine ⟨g, o, cur, e, blk_of_turn hT h3 (fun q2 => ?_), h4⟩
  have q3 : g = b := q2
  subst q3
  unfold blk at h3
  rw [q] at h3
  injection h3 with h3
  injection h3 with _ h3
  cases h3
theorem SW.tail {W : World} {g o n c : Nat} {y : Wr} {l : List Wr} (h : SW W (.slice (some ⟨g, o, none⟩) n c) (y :: l)) : SW W (.slice (some ⟨g, o + 19, none⟩) l.length (c - 1)) l := by
  obtain ⟨a, c', e, h1, h2⟩ := h
  injection e with e1 e2 e3
  subst e1 e3
  rw [List.length_cons] at h1
  refine ⟨_, _, rfl, by omega, fun i hi => ?_⟩
  obtain ⟨g', o', cur, e, h3, h4⟩ := h2 (i + 1) (by rw [List.length_cons]; omega)
  injection e with e
  injection e with e4 e5
  subst e4 e5
  refine ⟨g, o + 19, cur, rfl, h3, ?_⟩
  rw [show o + 19 + i * 19 = o + (i + 1) * 19 by omega]
  exact h4
theorem SW.tail2 {W : World} {g o n c : Nat} {y : Wr} {l : List Wr} (h : SW W (.slice (some ⟨g, o, none⟩) n c) (y :: l)) : SW W (.slice (if c = 1 then some ⟨g, o, none⟩ else some ⟨g, o + 19, none⟩) l.length (c - 1)) l := by
  by_cases hc : c = 1
  · rw [if_pos hc]
    obtain ⟨a, c', e, h1, _⟩ := h
    injection e with e1 e2 e3
    subst e1 e3
    rw [List.length_cons] at h1
    exact ⟨_, _, rfl, by omega, fun i hi => absurd hi (by omega)⟩
  · rw [if_neg hc]; exact h.tail
theorem SW.head {W : World} {a : Option Addr} {n c : Nat} {y : Wr} {l : List Wr} (h : SW W (.slice a n c) (y :: l)) : n = l.length + 1 ∧ n ≤ c ∧ ∃ g o cur, a = some ⟨g, o, none⟩ ∧ blk W g = some (.cells cur 53 (0, 0)) ∧ cur.extract o (o + 19) = wcells y.1.1 y.1.2 y.2 := by
  obtain ⟨a', c', e, h1, h2⟩ := h
  injection e with e1 e2 e3
  subst e1 e2 e3
  refine ⟨List.length_cons .., h1, ?_⟩
  obtain ⟨g, o, cur, e, h3, h4⟩ := h2 0 (by simp)
  exact ⟨g, o, cur, e, h3, by simpa using h4⟩
/-- Its first write's cells. -/
theorem mid_cell {W : World} {g o : Nat} {cur : Array Value} {t : TypeId} {fz : Nat × Nat} {k m : Int} {x : Val} (h : blk W g = some (.cells cur t fz)) (hx : cur.extract o (o + 19) = wcells k m x) :
    W.cell? ⟨g, o, none⟩ = some (.int .i64 k) ∧ W.cell? ⟨g, o + 1, none⟩ = some (.int .i64 m) ∧ cur.extract (o + 2) (o + 2 + 17) = x.cells := by
  have hr := World.rangeAt_of_block (w := W) h o 19
  rw [hx] at hr
  have c0 := hr 0 (.int .i64 k) rfl
  have c1 := hr 1 (.int .i64 m) rfl
  refine ⟨by simpa using c0, c1, ?_⟩
  have := congrArg (fun c : Array Value => c.extract 2 (2 + 17)) hx
  simp only [wcells_ext, Array.extract_extract] at this
  rw [← this]
  congr 1
  omega
/-- Two views of one store. -/
structure Ap (w : World) (s l : Nat) (L M : Lay) (a b : VSt) (W : World) : Prop where
  x : ViewAt W L a
  y : ViewAt W M b
  b : Below w.heap.size w W
/-- Where they lie. -/
structure ApF (w : World) (L M : Lay) : Prop where
  ls : L.s = M.s
  ll : L.l = M.l
  lo : w.heap.size ≤ L.r ∧ w.heap.size ≤ L.m ∧ w.heap.size ≤ M.r ∧ w.heap.size ≤ M.m
  ln : (L.r ≠ M.v ∧ L.r ≠ M.s ∧ L.r ≠ M.l ∧ L.r ≠ M.r ∧ L.r ≠ M.m) ∧ (L.m ≠ M.v ∧ L.m ≠ M.s ∧ L.m ≠ M.l ∧ L.m ≠ M.r ∧ L.m ≠ M.m)
  mn : (M.r ≠ L.v ∧ M.r ≠ L.s ∧ M.r ≠ L.l ∧ M.r ≠ L.r ∧ M.r ≠ L.m) ∧ (M.m ≠ L.v ∧ M.m ≠ L.s ∧ M.m ≠ L.l ∧ M.m ≠ L.r ∧ M.m ≠ L.m)
section
variable {w : World} {s l : Nat} {L M : Lay} {a b a' b' : VSt} {W W' : World}
theorem Ap.below (h : Ap w s l L M a b W) (hb : Below W.heap.size W W') : Ap w s l L M a b W' := ⟨h.x.below hb, h.y.below hb, h.b.trans (hb.mono h.b.size)⟩
theorem Ap.left {S : Nat → Prop} (F : ApF w L M) (h : Ap w s l L M a b W) (hV : ViewAt W' L a') (T : Turn S W W') (hS : ∀ i, S i → i = L.r ∨ i = L.m) : Ap w s l L M a' b W' :=
  ⟨hV, h.y.keep T (fun i q => by rcases hS i q with rfl | rfl; exact F.ln.1; exact F.ln.2), h.b.trans (T.below (B := w.heap.size) h.b.size (fun i q => by have := F.lo; rcases hS i q with rfl | rfl <;> omega))⟩
theorem Ap.right {S : Nat → Prop} (F : ApF w L M) (h : Ap w s l L M a b W) (hV : ViewAt W' M b') (T : Turn S W W') (hS : ∀ i, S i → i = M.r ∨ i = M.m) : Ap w s l L M a b' W' :=
  ⟨h.x.keep T (fun i q => by rcases hS i q with rfl | rfl; exact F.mn.1; exact F.mn.2), hV, h.b.trans (T.below (B := w.heap.size) h.b.size (fun i q => by have := F.lo; rcases hS i q with rfl | rfl <;> omega))⟩
end
end Go.Proofs.Ytncgppdmfnapiaa.St
