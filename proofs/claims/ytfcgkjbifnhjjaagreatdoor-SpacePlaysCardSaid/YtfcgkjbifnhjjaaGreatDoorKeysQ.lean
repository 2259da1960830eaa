/- The iterators of maps.Keys over maps keyed by objects' keys. No condition but those written in each statement. -/
import Derived.Test.YtfcgkjbifnhjjaaGreatDoorRngQ
import Derived.Test.YtfcgkjbifnhjjaaGreatDoorQ52
import Derived.Test.YtfcgkjbifnhjjaaGreatDoorLawKit
import Derived.RangeFuncNested
import Derived.RangeFuncBound
import Derived.RangeFuncCalls
import Derived.RangeFuncLeaves
import Derived.RangeFuncBox
import Derived.Shelf.Abstract
import Derived.Shelf.RegionOpen
import Derived.OwnWalkIn
import Derived.TacticsInMore
import Derived.LoopNIn
import Derived.LoopIn
namespace Go.Proofs.YtfcgkjbifnhjjaaGreatDoor.St
open Go.RowKit Go.Shelf
set_option linter.unusedVariables false
attribute [local go_sem] Oper.semAt_some

theorem nodup_len {α : Type} : ∀ (a b : List α), a.Nodup → (∀ x ∈ a, x ∈ b) → a.length ≤ b.length
  | [], b, _, _ => Nat.zero_le _
  | x :: a, b, hn, hs => by
    obtain ⟨h1, h2⟩ := List.nodup_cons.1 hn
    obtain ⟨p, q, rfl⟩ := List.append_of_mem (hs x (by simp))
    have := nodup_len a (p ++ q) h2 fun y hy => by
      have := hs y (by simp [hy])
      simp only [List.mem_append, List.mem_cons] at this ⊢
      rcases this with h | rfl | h
      · exact Or.inl h
      · exact absurd hy h1
      · exact Or.inr h
    simp only [List.length_append, List.length_cons] at this ⊢
    omega
/-- An entry's key, as two numbers. -/
def kOf (e : MapEntry) : Int × Int := match e.key with
  | .agg #[.int .i64 a, .int .i64 b] => (a, b)
  | _ => (0, 0)
abbrev kV (k : Int × Int) : Value := keyV k.1 k.2
theorem kOf_key {e : MapEntry} {k n : Int} (h : e.key = keyV k n) : kOf e = (k, n) := by unfold kOf; rw [h]; rfl
theorem KM.at {es : Array MapEntry} {clk : Nat} {f : Int → Int → Option Value} (h : KM es clk f) {e : MapEntry} (he : e ∈ es.toList) : e.key = kV (kOf e) ∧ f (kOf e).1 (kOf e).2 = some e.val := by
  obtain ⟨i, hi, rfl⟩ := List.getElem_of_mem he
  have hi' : i < es.size := by simpa using hi
  obtain ⟨k, n, h1, h2⟩ := h.keyed i hi'
  have h1' : (es.toList[i]).key = keyV k n := by simpa using h1
  rw [kOf_key h1']
  exact ⟨h1', by simpa using h2⟩
theorem KM.inj {es : Array MapEntry} {clk : Nat} {f : Int → Int → Option Value} (h : KM es clk f) {e e' : MapEntry} (he : e ∈ es.toList) (he' : e' ∈ es.toList) (q : kOf e = kOf e') : e = e' := by
  have k1 := (h.at he).1
  have k2 := (h.at he').1
  obtain ⟨i, hi, rfl⟩ := List.getElem_of_mem he
  obtain ⟨j, hj, rfl⟩ := List.getElem_of_mem he'
  have hi' : i < es.size := by simpa using hi
  have hj' : j < es.size := by simpa using hj
  have := h.once i j hi' hj' (by
    have a : (es.toList[i]).key = (es.toList[j]).key := by rw [k1, k2, q]
    simpa using a)
  subst this; rfl
/-- The keys of a map, each once. -/
def KeysOf (f : Int → Int → Option Value) (ks : List (Int × Int)) : Prop := ks.Nodup ∧ ∀ k, k ∈ ks ↔ (f k.1 k.2).isSome = true
theorem Rng.keys {W : World} {b r : Nat} {es : Array MapEntry} {clk : Nat} {xs : List MapEntry} {f : Int → Int → Option Value} (h : Rng W b r es clk xs) (hk : KM es clk f) (ha : ∀ e ∈ es.toList, e ∈ xs) : KeysOf f (xs.map kOf) := by
  constructor
  · rw [List.nodup_iff_pairwise_ne, List.pairwise_map]
    refine (List.nodup_iff_pairwise_ne.1 h.nodup).imp_of_mem fun hx hy hne q => hne (hk.inj (h.sub _ hx) (h.sub _ hy) q)
  · intro k
    constructor
    · intro hm
      obtain ⟨e, he, rfl⟩ := List.mem_map.1 hm
      rw [(hk.at (h.sub e he)).2]; rfl
    · intro hs
      obtain ⟨v, hv⟩ := Option.isSome_iff_exists.1 hs
      obtain ⟨i, hi, e1⟩ := hk.there _ _ _ hv
      have hm : es[i] ∈ es.toList := by simp
      refine List.mem_map.2 ⟨es[i], ha _ hm, ?_⟩
      rw [kOf_key e1]

theorem Rng.of_walks {W W' : World} {b r : Nat} {es : Array MapEntry} {clk : Nat} {xs : List MapEntry} (h : Rng W b r es clk xs) (k : KeepsWalks W W') : Rng W' b r es clk xs := by
  obtain ⟨c0, seen, hr, q⟩ := h.hr
  exact ⟨k.same _ _ h.hb rfl, ⟨c0, seen, k.same _ _ hr rfl, q⟩, h.sub, h.nodup⟩
theorem Rng.left_walks {W W' : World} {b r : Nat} {es : Array MapEntry} {clk : Nat} {xs : List MapEntry} (h : Rng W b r es clk xs) (k : KeepsWalks W W') : W'.rangeLeft b r = W.rangeLeft b r := by
  obtain ⟨c0, seen, hr, q⟩ := h.hr
  unfold World.rangeLeft
  rw [k.same _ _ h.hb rfl, k.same _ _ hr rfl, h.hb, hr]
theorem Rng.walk {W : World} {b r : Nat} {es : Array MapEntry} {clk : Nat} {xs : List MapEntry} (h : Rng W b r es clk xs) : ∃ o : Obj, W.heap[r]? = some o ∧ o.isWalk = true := by
  obtain ⟨c0, seen, hr, _⟩ := h.hr
  exact ⟨_, hr, rfl⟩

set_option maxRecDepth 100000 in
set_option maxHeartbeats 1000000 in
theorem keysR_in (F : Fence) (n : Nat) (hF : F.fn 110) (hro : F.round = none) (hn : 1 ≤ n) (l Bm b : Nat) (es : Array MapEntry) (clk : Nat) (f : Int → Int → Option Value) (hk : KM es clk f) (J Jx : List (Int × Int) → World → Prop)
    (hY : ∀ pre x W, J pre W → pre.length < es.size → YieldAt F (n - 1) Tryz.prog l #[kV x] W fun e W' => (e = .returned (.bool true) ∧ J (pre ++ [x]) W' ∧ KeepsWalks W W') ∨ (e = .returned (.bool false) ∧ Jx (pre ++ [x]) W'))
    (W : World) (hJ : AbidesFrom W.heap.size J) (hm : W.cell? ⟨Bm, 0, none⟩ = some (.map (some b))) (hb : W.heap[b]? = some (.map es clk)) (h0 : J [] W) :
    CallsIn F n Tryz.prog 110 #[.func (.yield l) #[] #[], .pointer (some ⟨Bm, 0, none⟩)] W fun e W' => (∃ v, e = .returned v) ∧ ((∃ ks, KeysOf f ks ∧ J ks W') ∨ (∃ pre : List (Int × Int), True ∧ Jx pre W')) := by
  refine callsIn_of_wp Tryz.func110 rfl hF ?_ hro
  simp only [Tryz.ntmps110, List.size_toArray, List.length_cons, List.length_nil, Nat.reduceAdd, Nat.reduceSub, Array.replicate_succ, Array.replicate_zero, List.push_toArray, List.append_toArray, List.nil_append, List.cons_append]
  gi_wp2_with (first
    | (gi_at_range; refine wpListIn_range_e rfl _ _ rfl _ _ Tryz.underlying103 rfl hb ?_)
    | gi_in)
  go_frame
  gi_loopw [3] (fun _ wr => ∃ xs, Rng wr b W.heap.size es clk xs ∧ J (xs.map kOf) wr) (fun _ wr => wr.rangeLeft b W.heap.size)
  case atStart => exact ⟨[], rng_start hb, hJ [] W _ none h0 (World.grownBy_alloc W _ none) (fun r e => by cases e)⟩
  case round =>
    obtain ⟨xs, hrg, hJs⟩ := hrel
    gi_wp2_with (first
      | (gi_at_next; refine wpListIn_next_e rfl _ rfl rfl hrg hk.born ?_ ?_)
      | gi_in)
    · intro hall
      gi_wp2
      go_end0
      exact ⟨⟨_, rfl⟩, .inl ⟨xs.map kOf, hrg.keys hk (fun e he => hall e (Array.mem_toList_iff.1 he)), hJs⟩⟩
    · intro e w2 hem hnx hrg2 hen ht2 hz2 hg2 hlt
      have hJ2 := hJ _ wr w2 (some W.heap.size) hJs hg2 (fun r e => by cases e; exact ⟨Nat.le_refl _, hrg.walk⟩)
      have hlen : (xs.map kOf).length < es.size := by
        rw [List.length_map]
        have h1 := nodup_len (xs ++ [e]) es.toList hrg2.nodup hrg2.sub
        simp at h1; omega
      obtain ⟨hek, _⟩ := hk.at (Array.mem_toList_iff.2 hem)
      rw [hek] at hen ⊢
      have hJ3 := hJ _ w2 (w2.alloc (.cells #[.int .i64 (kOf e).1, .int .i64 (kOf e).2] 57)) none hJ2 (World.grownBy_alloc _ _ none) (fun r e => by cases e)
      obtain ⟨fn, tmps, assign, body, hy, hR⟩ := hY _ (kOf e) _ hJ3 hlen
      have hrg3 : Rng (w2.alloc (.cells #[.int .i64 (kOf e).1, .int .i64 (kOf e).2] 57)) b W.heap.size es clk (xs ++ [e]) := hrg2.keep (Below.heap_alloc _ _ _ hrg2.lt.1) (Below.heap_alloc _ _ _ hrg2.lt.2)
      have HR := Lib.hid hrg3
      have Hl := Lib.hid (hrg2.left_walks (KeepsWalks.alloc w2 (.cells #[.int .i64 (kOf e).1, .int .i64 (kOf e).2] 57)))
      clear hY hJ hJs hJ2 hJ3 hrg hg2 ht2 hrg3 hrg2
      gi_wp2
      refine hR.mono ?_
      rintro e' W3 (⟨rfl, hJ4, hk3⟩ | ⟨rfl, hJx4⟩)
      · have hrg4 := HR.out.of_walks hk3
        have hl4 : W3.rangeLeft b W.heap.size = w2.rangeLeft b W.heap.size := (HR.out.left_walks hk3).trans (Hl.out)
        gi_wp2
        refine ⟨⟨xs ++ [e], hrg4, by rw [List.map_append]; exact hJ4⟩, by rw [hl4]; exact hlt⟩
      · gi_wp2
        refine bodyPost_ret (results_none rfl _ _ _) rfl ?_
        exact ⟨⟨_, rfl⟩, .inr ⟨_, trivial, hJx4⟩⟩

set_option maxRecDepth 100000 in
set_option maxHeartbeats 1000000 in
theorem keysW_in (F : Fence) (n : Nat) (hF : F.fn 98) (hro : F.round = none) (hn : 1 ≤ n) (l Bm b : Nat) (es : Array MapEntry) (clk : Nat) (f : Int → Int → Option Value) (hk : KM es clk f) (J Jx : List (Int × Int) → World → Prop)
    (hY : ∀ pre x W, J pre W → pre.length < es.size → YieldAt F (n - 1) Tryz.prog l #[kV x] W fun e W' => (e = .returned (.bool true) ∧ J (pre ++ [x]) W' ∧ KeepsWalks W W') ∨ (e = .returned (.bool false) ∧ Jx (pre ++ [x]) W'))
    (W : World) (hJ : AbidesFrom W.heap.size J) (hm : W.cell? ⟨Bm, 0, none⟩ = some (.map (some b))) (hb : W.heap[b]? = some (.map es clk)) (h0 : J [] W) :
    CallsIn F n Tryz.prog 98 #[.func (.yield l) #[] #[], .pointer (some ⟨Bm, 0, none⟩)] W fun e W' => (∃ v, e = .returned v) ∧ ((∃ ks, KeysOf f ks ∧ J ks W') ∨ (∃ pre : List (Int × Int), True ∧ Jx pre W')) := by
  refine callsIn_of_wp Tryz.func98 rfl hF ?_ hro
  simp only [Tryz.ntmps98, List.size_toArray, List.length_cons, List.length_nil, Nat.reduceAdd, Nat.reduceSub, Array.replicate_succ, Array.replicate_zero, List.push_toArray, List.append_toArray, List.nil_append, List.cons_append]
  gi_wp2_with (first
    | (gi_at_range; refine wpListIn_range_e rfl _ _ rfl _ _ Tryz.underlying102 rfl hb ?_)
    | gi_in)
  go_frame
  gi_loopw [3] (fun _ wr => ∃ xs, Rng wr b W.heap.size es clk xs ∧ J (xs.map kOf) wr) (fun _ wr => wr.rangeLeft b W.heap.size)
  case atStart => exact ⟨[], rng_start hb, hJ [] W _ none h0 (World.grownBy_alloc W _ none) (fun r e => by cases e)⟩
  case round =>
    obtain ⟨xs, hrg, hJs⟩ := hrel
    gi_wp2_with (first
      | (gi_at_next; refine wpListIn_next_e rfl _ rfl rfl hrg hk.born ?_ ?_)
      | gi_in)
    · intro hall
      gi_wp2
      go_end0
      exact ⟨⟨_, rfl⟩, .inl ⟨xs.map kOf, hrg.keys hk (fun e he => hall e (Array.mem_toList_iff.1 he)), hJs⟩⟩
    · intro e w2 hem hnx hrg2 hen ht2 hz2 hg2 hlt
      have hJ2 := hJ _ wr w2 (some W.heap.size) hJs hg2 (fun r e => by cases e; exact ⟨Nat.le_refl _, hrg.walk⟩)
      have hlen : (xs.map kOf).length < es.size := by
        rw [List.length_map]
        have h1 := nodup_len (xs ++ [e]) es.toList hrg2.nodup hrg2.sub
        simp at h1; omega
      obtain ⟨hek, _⟩ := hk.at (Array.mem_toList_iff.2 hem)
      rw [hek] at hen ⊢
      have hJ3 := hJ _ w2 (w2.alloc (.cells #[.int .i64 (kOf e).1, .int .i64 (kOf e).2] 57)) none hJ2 (World.grownBy_alloc _ _ none) (fun r e => by cases e)
      obtain ⟨fn, tmps, assign, body, hy, hR⟩ := hY _ (kOf e) _ hJ3 hlen
      have hrg3 : Rng (w2.alloc (.cells #[.int .i64 (kOf e).1, .int .i64 (kOf e).2] 57)) b W.heap.size es clk (xs ++ [e]) := hrg2.keep (Below.heap_alloc _ _ _ hrg2.lt.1) (Below.heap_alloc _ _ _ hrg2.lt.2)
      have HR := Lib.hid hrg3
      have Hl := Lib.hid (hrg2.left_walks (KeepsWalks.alloc w2 (.cells #[.int .i64 (kOf e).1, .int .i64 (kOf e).2] 57)))
      clear hY hJ hJs hJ2 hJ3 hrg hg2 ht2 hrg3 hrg2
      gi_wp2
      refine hR.mono ?_
      rintro e' W3 (⟨rfl, hJ4, hk3⟩ | ⟨rfl, hJx4⟩)
      · have hrg4 := HR.out.of_walks hk3
        have hl4 : W3.rangeLeft b W.heap.size = w2.rangeLeft b W.heap.size := (HR.out.left_walks hk3).trans (Hl.out)
        gi_wp2
        refine ⟨⟨xs ++ [e], hrg4, by rw [List.map_append]; exact hJ4⟩, by rw [hl4]; exact hlt⟩
      · gi_wp2
        refine bodyPost_ret (results_none rfl _ _ _) rfl ?_
        exact ⟨⟨_, rfl⟩, .inr ⟨_, trivial, hJx4⟩⟩

theorem keysR_stops (F : Fence) (n : Nat) (hF : F.fn 110) (hro : F.round = none) (hn : 1 ≤ n) (Bm b : Nat) (es : Array MapEntry) (clk : Nat) (f : Int → Int → Option Value) (hk : KM es clk f) (w : World)
    (hm : w.cell? ⟨Bm, 0, none⟩ = some (.map (some b))) (hb : w.heap[b]? = some (.map es clk)) :
    SeqStops F n Tryz.prog 110 #[.pointer (some ⟨Bm, 0, none⟩)] kV (KeysOf f) (fun _ => True) es.size w := fun l J Jx W hW hJ _ hY h0 =>
  keysR_in F n hF hro hn l Bm b es clk f hk J Jx hY W hJ ((hW.cell (cell_block_lt hm)).trans hm) ((hW.block b (lt_of_heap hb)).trans hb) h0
theorem keysW_stops (F : Fence) (n : Nat) (hF : F.fn 98) (hro : F.round = none) (hn : 1 ≤ n) (Bm b : Nat) (es : Array MapEntry) (clk : Nat) (f : Int → Int → Option Value) (hk : KM es clk f) (w : World)
    (hm : w.cell? ⟨Bm, 0, none⟩ = some (.map (some b))) (hb : w.heap[b]? = some (.map es clk)) :
    SeqStops F n Tryz.prog 98 #[.pointer (some ⟨Bm, 0, none⟩)] kV (KeysOf f) (fun _ => True) es.size w := fun l J Jx W hW hJ _ hY h0 =>
  keysW_in F n hF hro hn l Bm b es clk f hk J Jx hY W hJ ((hW.cell (cell_block_lt hm)).trans hm) ((hW.block b (lt_of_heap hb)).trans hb) h0
theorem mkeysR (b : Option Nat) (w : World) : Calls Tryz.prog 81 #[.map b] w fun e w' => e = .returned (.func (.func 110) #[] #[.pointer (some ⟨w.heap.size, 0, none⟩)]) ∧ w' = w.alloc (.cells #[.map b] 103) := by
  have hmf : ∀ (fn : Fn) (first cap : Array Value) (w : World), (Instr.makeFunc fn first cap).run Tryz.prog w = .ok (.func fn first cap) w := fun _ _ _ _ => rfl
  go_enter Tryz.func81, Tryz.ntmps81
  go_wp2_with fail
  go_ret
  exact ⟨rfl, rfl⟩
theorem mkeysW (b : Option Nat) (w : World) : Calls Tryz.prog 66 #[.map b] w fun e w' => e = .returned (.func (.func 98) #[] #[.pointer (some ⟨w.heap.size, 0, none⟩)]) ∧ w' = w.alloc (.cells #[.map b] 102) := by
  have hmf : ∀ (fn : Fn) (first cap : Array Value) (w : World), (Instr.makeFunc fn first cap).run Tryz.prog w = .ok (.func fn first cap) w := fun _ _ _ _ => rfl
  go_enter Tryz.func66, Tryz.ntmps66
  go_wp2_with fail
  go_ret
  exact ⟨rfl, rfl⟩
end Go.Proofs.YtfcgkjbifnhjjaaGreatDoor.St
