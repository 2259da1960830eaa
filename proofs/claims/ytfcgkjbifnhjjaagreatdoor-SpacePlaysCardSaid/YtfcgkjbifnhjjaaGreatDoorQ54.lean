/- The contract of key.Sort. The contract of cloisterbook.Same of keys, where they are the same. No condition but those written in each statement. -/
import Derived.Test.YtfcgkjbifnhjjaaGreatDoorQ52
import Derived.Test.YtfcgkjbifnhjjaaGreatDoorLawKit
import Derived.Test.YtfcgkjbifnhjjaaGreatDoorShelf
import Derived.Sort.OwnSortedInts
import Derived.Lib.Hide
import Derived.Laws.StructEq
import Derived.BigQuiet
namespace Go.Proofs.YtfcgkjbifnhjjaaGreatDoor.St
open Go.RowKit
set_option linter.unusedVariables false

theorem k_info_int : (Tryz.prog.info? 3).map (fun i => (i.zero, i.size, i.bytes)) = some (some (.int .i64 0), 1, 8) := by kernel_rfl
theorem info_key : (Tryz.prog.info? 57).map (fun i => (i.zero, i.size, i.bytes)) = some (some (.agg #[.int .i64 0, .int .i64 0]), 2, 16) := by kernel_rfl

/-- The places of the first k keys that there are. -/
def plN (z : Nat → Nat → Int) : Nat → List Int
  | 0 => []
  | k + 1 => plN z k ++ if 0 ≤ placeI (z k 0) (z k 1) then [placeI (z k 0) (z k 1)] else []
theorem plN_le (z : Nat → Nat → Int) (k : Nat) : (plN z k).length ≤ k := by
  induction k with
  | zero => simp [plN]
  | succ k ih => rw [plN, List.length_append]; split <;> simp <;> omega
theorem plN_hit (z : Nat → Nat → Int) (k : Nat) (h : 0 ≤ placeI (z k 0) (z k 1)) : plN z (k + 1) = plN z k ++ [placeI (z k 0) (z k 1)] := by rw [plN, if_pos h]
theorem plN_miss (z : Nat → Nat → Int) (k : Nat) (h : ¬ 0 ≤ placeI (z k 0) (z k 1)) : plN z (k + 1) = plN z k := by rw [plN, if_neg h, List.append_nil]

/-- The loop's relation behind an append of one number. -/
theorem own_push {B : Nat} {w wr w1 : World} {v v' : Value} {o : Obj} {ps : List Int} {p : Int} {e : TypeId} (hB : B ≤ wr.heap.size) (hown : wr.ownsRow B e 1 v ps.length (ps.map (Value.int .i64))) (hnx : Below B w wr)
    (hown' : w1.ownsRow B e 1 v' (ps.length + 1) (ps.map (Value.int .i64) ++ [.int .i64 p])) (hgrow : (wr.alloc o).grownBy w1 v.ownBlock) :
    w1.ownsRow B e 1 v' (ps ++ [p]).length ((ps ++ [p]).map (Value.int .i64)) ∧ Below B w w1 :=
  ⟨by simpa using hown', (hnx.alloc (by omega) o).grown hgrow (by simp; omega) (fun j hj => by have := (hown.lt j hj).1; omega)⟩

theorem own_below {B : Nat} {w w' : World} {e : TypeId} {size : Nat} {v : Value} {n : Nat} {xs : List Value} (h : w.ownsRow B e size v n xs) (hb : Below w.heap.size w w') : w'.ownsRow B e size v n xs := by
  refine ⟨h.1, ?_⟩
  rcases h.2 with q | ⟨g, cap, cur, h1, h2, h3, h4⟩
  · exact Or.inl q
  · exact Or.inr ⟨g, cap, cur, h1, h2, (hb.block g (lt_of_heap h3)).trans h3, h4⟩

theorem own_mono {B B' : Nat} {w : World} {e : TypeId} {size : Nat} {v : Value} {n : Nat} {xs : List Value} (h : w.ownsRow B e size v n xs) (hb : B' ≤ B) : w.ownsRow B' e size v n xs := by
  refine ⟨h.1, ?_⟩
  rcases h.2 with q | ⟨g, cap, cur, h1, h2, h3⟩
  · exact Or.inl q
  · exact Or.inr ⟨g, cap, cur, h1, by omega, h3⟩

/-- The library's sort of a row of the call's own. -/
abbrev srt (ss : List Int) : List Int := ss.mergeSort fun x y => decide (x ≤ y)
theorem sort_own {B : Nat} {w : World} {v : Value} {ss : List Int} (hl : ss.length ≤ 1000000) (h : w.ownsRow B 3 1 v ss.length (ss.map (Value.int .i64))) (hB : B ≤ w.heap.size) :
    Calls Tryz.prog 94 #[v] w fun e w' => e = .returned (.tuple #[]) ∧ w'.ownsRow B 3 1 v (srt ss).length ((srt ss).map (Value.int .i64)) ∧ Below B w w' := by
  rcases h.2 with ⟨rfl, h0⟩ | ⟨g, cap, cur, rfl, hg, hb, h1, h2, h3, h4⟩
  · have hs : ss = [] := List.length_eq_zero_iff.1 h0
    subst hs
    refine (Tryz.slices_Sort_int_none none 0 w).mono ?_
    rintro e w' ⟨rfl, rfl⟩
    have es : srt [] = [] := by simp
    rw [es]
    exact ⟨rfl, World.ownsRow_nil _ _ _ _, Below.refl _ _⟩
  · have hlt := lt_of_heap hb
    refine (Tryz.slices_Sort_int g 0 cap ss w (holds_of_blockI hb (by simpa using h4)) hlt (by omega)).mono ?_
    rintro e w' ⟨rfl, n, os, rfl⟩
    have o := ownsRow_sortedI (n := n) (os := os) (ss := ss) (ts := srt ss) (by simp) hg hb h1 h2 h3
    refine ⟨rfl, by simpa using o, (Below.refl B w).grown (grownBy_sortedI _) hB (fun j hj => ?_)⟩
    have : g = j := by simpa using hj
    omega

/-- The library's compaction of a row of the call's own. -/
theorem compact_le (ss : List Int) : (Go.Lib.compact ss).length ≤ ss.length := by
  unfold Go.Lib.compact Go.Lib.compactUpTo
  rw [List.length_map]
  refine Nat.le_trans (List.length_filter_le _ _) ?_
  simp
theorem compact_own {B : Nat} {w : World} {v : Value} {ss : List Int} (hl : ss.length ≤ 1000000) (h : w.ownsRow B 3 1 v ss.length (ss.map (Value.int .i64))) (hB : B ≤ w.heap.size) :
    Calls Tryz.prog 95 #[v] w fun e w' => ∃ a c, e = .returned (.slice a (Go.Lib.compact ss).length c) ∧ w'.ownsRow B 3 1 (.slice a (Go.Lib.compact ss).length c) (Go.Lib.compact ss).length ((Go.Lib.compact ss).map (Value.int .i64)) ∧ Below B w w' := by
  rcases h.2 with ⟨rfl, h0⟩ | ⟨g, cap, cur, rfl, hg, hb, h1, h2, h3, h4⟩
  · have hs : ss = [] := List.length_eq_zero_iff.1 h0
    subst hs
    refine (Tryz.slices_Compact_int_empty none 0 w).mono ?_
    rintro e w' ⟨rfl, rfl⟩
    exact ⟨none, 0, rfl, World.ownsRow_nil _ _ _ _, Below.refl _ _⟩
  · have hc := compact_le ss
    refine (Tryz.slices_Compact_int g 0 cap ss w (holds_of_blockI hb (by simpa using h4)) (by omega) h1).mono ?_
    rintro e w' ⟨rfl, n, rfl⟩
    generalize hC : Go.Lib.compact ss = C at *
    have o := ownsRow_sortedI (n := n) (os := #[]) (ss := ss) (ts := C ++ List.replicate (ss.length - C.length) 0) (by simp; omega) hg hb h1 h2 h3
    have gb := grownBy_sortedI (w := w) (g := g) (n := n) (os := #[]) (C ++ List.replicate (ss.length - C.length) 0).toArray
    rw [Go.Sort.grow_empty] at o gb
    refine ⟨_, _, rfl, ?_, (Below.refl B w).grown gb hB (fun j hj => ?_)⟩
    · rcases o.2 with ⟨q, _⟩ | ⟨g', cap', cur', e', hg', hb', k1, k2, k3, k4⟩
      · cases q
      · cases e'
        refine ⟨by simp, Or.inr ⟨g, cap, cur', rfl, hg', hb', by omega, k2, k3, ?_⟩⟩
        have : cur'.toList.take (C.length * 1) = (cur'.toList.take (ss.length * 1)).take C.length := by rw [List.take_take, Nat.mul_one, Nat.mul_one, Nat.min_eq_left hc]
        rw [this, k4]
        simp
    · have : g = j := by simpa using hj
      omega

/-- A key's two cells, by its place. -/
def kcs (p : Int) : List Value := [.int .i64 ((atK p).getD (0, 0)).1, .int .i64 ((atK p).getD (0, 0)).2]
def flat : List Int → List Value
  | [] => []
  | p :: l => kcs p ++ flat l
theorem flat_app (a b : List Int) : flat (a ++ b) = flat a ++ flat b := by
  induction a with
  | nil => rfl
  | cons x l ih => simp [flat, ih]
/-- The places of the keys, sorted, each once. -/
def ksorted (z : Nat → Nat → Int) (n : Nat) : List Int := Go.Lib.compact (srt (plN z n))

theorem place_small (k n : Int) (h : 0 ≤ placeI k n) : placeI k n ≤ 300 := by
  obtain ⟨h1, h2, h3, h4, h5⟩ := place_range k n h
  have := ahead_range h3 h4
  have := many_bounds k
  omega

theorem plN_mem (z : Nat → Nat → Int) (n : Nat) : ∀ p ∈ plN z n, 0 ≤ p ∧ p ≤ 300 := by
  induction n with
  | zero => intro p h; cases h
  | succ n ih =>
    intro p h
    rw [plN, List.mem_append] at h
    rcases h with h | h
    · exact ih p h
    · split at h
      · rename_i hc
        obtain rfl : p = placeI (z n 0) (z n 1) := by simpa using h
        exact ⟨hc, place_small _ _ hc⟩
      · cases h
theorem compact_mem {ss : List Int} {p : Int} (h : p ∈ Go.Lib.compact ss) : p ∈ ss := by
  unfold Go.Lib.compact Go.Lib.compactUpTo at h
  rw [List.mem_map] at h
  obtain ⟨i, hi, rfl⟩ := h
  have hi2 : i < ss.length := by
    have := (List.mem_filter.1 hi).1
    simpa using this
  rw [getElem!_pos _ i (by simpa using hi2)]
  simp
theorem ksorted_mem (z : Nat → Nat → Int) (n : Nat) : ∀ p ∈ ksorted z n, 0 ≤ p ∧ p ≤ 300 := fun p h => plN_mem z n p (List.mem_mergeSort.1 (compact_mem h))

theorem own_push2 {B : Nat} {w wr w1 : World} {v v' : Value} {o : Obj} {n : Nat} {xs ys : List Value} {e : TypeId} (hB : B ≤ wr.heap.size) (hown : wr.ownsRow B e 2 v n xs) (hnx : Below B w wr)
    (hown' : w1.ownsRow B e 2 v' (n + 1) (xs ++ ys)) (hgrow : (wr.alloc o).grownBy w1 v.ownBlock) : Below B w w1 :=
  (hnx.alloc (by omega) o).grown hgrow (by simp; omega) (fun j hj => by have := (hown.lt j hj).1; omega)

attribute [local irreducible] Int.lt Int.le
set_option maxRecDepth 100000 in
set_option maxHeartbeats 4000000 in
theorem ksort_any (x : Addr) (n cap : Nat) (z : Nat → Nat → Int) (w : World) (hn : n ≤ 1000000) (hx : ∀ i, i < n → ∀ j, j < 2 → w.cell? (x.add (i * 2 + j)) = some (.int .i64 (z i j)) ∧ (Lit.int .i64 (z i j)).wf = true) :
    Calls Tryz.prog 64 #[.slice (some x) n cap] w fun e w' => ∃ v, e = .returned v ∧ w'.ownsRow w.heap.size 57 2 v (ksorted z n).length (flat (ksorted z n)) ∧ Below w.heap.size w w' := by
  obtain ⟨i0, hi, hz0, hz1, hz2⟩ := info_parts k_info_int
  go_enter Tryz.func64, Tryz.ntmps64
  go_wp2_with fail
  go_loopw [3, 14] (fun v i wr => ∃ k : Nat, k ≤ n ∧ i = .int .i64 (k : Int) ∧ wr.ownsRow w.heap.size 3 1 v (plN z k).length ((plN z k).map (Value.int .i64)) ∧ Below w.heap.size w wr) (fun _ i _ => n - (intOf i).toNat)
  case atStart => exact ⟨0, Nat.zero_le _, rfl, World.ownsRow_nil _ _ _ _, Below.refl _ _⟩
  case round =>
    obtain ⟨k, hk, rfl, hown, hnx⟩ := hrel
    by_cases hlt : k < n
    · have l1 : (k : Int) < (n : Int) := by omega
      have l0 : (0 : Int) ≤ (k : Int) := by omega
      obtain ⟨hz1', hz0'⟩ := rows_field hx hnx k hlt
      have z1 := hz1' 1 (by omega) (by omega)
      have z0 := hz0' (by omega)
      clear hz1' hz0'
      go_wp2_with fail
      have hl := plN_le z k
      have b0 := hnx.size
      have s0 : wr.heap.size ≤ (wr.alloc (Obj.cells #[Value.int IntKind.i64 (z k 0), Value.int IntKind.i64 (z k 1)] 57)).heap.size := by simp
      have tb : Below wr.heap.size wr (wr.alloc (Obj.cells #[Value.int IntKind.i64 (z k 0), Value.int IntKind.i64 (z k 1)] 57)) := (Below.refl _ _).alloc (Nat.le_refl _) _
      refine (place_any (z k 0) (z k 1) _).mono ?_; rintro e w1 ⟨rfl, t1⟩
      have tb1 := tb.trans (t1.mono s0)
      have hown1 := own_below hown tb1
      have hnx1 := hnx.trans (tb1.mono b0)
      have b1 := hnx1.size
      clear tb t1 s0 hown z0 z1 tb1
      by_cases hp : 0 ≤ placeI (z k 0) (z k 1)
      · have hk1 := plN_hit z k hp
        generalize placeI (z k 0) (z k 1) = P at *
        have Hk1 := Lib.hid hk1
        clear hk1
        go_wp2_with (first
          | (at_builtin; refine wpList_append_own _ rfl _ _ 36 rfl w.heap.size 3 i0 (.int .i64 0) 1 8 Tryz.underlying36 hi hz0 hz1 hz2 rfl (by decide) _ _ _ rfl (hown1.alloc _) ⟨w1.heap.size, 0, none⟩ 1 1 [.int .i64 P] rfl rfl ?c1 ?c2 ?c3 ?c4 ?c5 ?_)
          | fail)
        case c1 =>
          intro j u hj
          match j, hj with
          | 0, hj => simp at hj; subst hj; simp [Addr.add]
        case c2 => intro u hu; simp at hu; subst hu; rfl
        case c3 => unfold maxLen; omega
        case c4 => omega
        case c5 => simp; omega
        intro v' w2 hown' hgrow _
        have R := own_push b1 hown1 hnx1 hown' hgrow
        rw [← Hk1.out] at R
        clear hown1 hnx1 hown' hgrow hnx
        go_wp2_with fail
        exact ⟨⟨k + 1, by omega, by go_num, R.1, R.2⟩, by simp [intOf]; omega⟩
      · have hk1 := plN_miss z k hp
        have hp' : decide (0 ≤ placeI (z k 0) (z k 1)) = false := decide_eq_false hp
        rw [← hk1] at hown1
        clear hk1 hl
        go_wp2_with fail
        exact ⟨⟨k + 1, by omega, by go_num, hown1, hnx1⟩, by simp [intOf]; omega⟩
    · obtain rfl : k = n := by omega
      have hl := plN_le z k
      go_wp2_with fail
      refine (sort_own (by omega) hown hnx.size).mono ?_; rintro e w1 ⟨rfl, hown1, t1⟩
      have hnx1 := hnx.trans t1
      clear hown hnx t1
      have hl1 : (srt (plN z k)).length ≤ 1000000 := by simp; omega
      go_wp2_with fail
      refine (compact_own hl1 hown1 hnx1.size).mono ?_; rintro e w2 ⟨a, c, rfl, hown2, t2⟩
      have hnx2 := hnx1.trans t2
      have hl2 := Nat.le_trans (compact_le (srt (plN z k))) hl1
      clear hown1 hnx1 t2 hl1 hl
      have hfold : Go.Lib.compact (srt (plN z k)) = ksorted z k := by rw [ksorted]
      rw [hfold] at hown2 hl2
      rw [hfold]
      clear hfold
      have hmem := ksorted_mem z k
      obtain ⟨ps, hps⟩ : ∃ ps, ps = ksorted z k := ⟨_, rfl⟩
      have Hps := Lib.hid hps
      rw [← hps] at hown2 hl2 hmem
      rw [← hps]
      clear hps
      have hcell : ∀ j, j < ps.length → ∃ b, a = some b ∧ w2.cell? (b.add j) = some (.int .i64 (ps.getD j 0)) := by
        intro j hj
        rcases hown2.2 with ⟨_, h0⟩ | ⟨g, cap', cur, e', _⟩
        · omega
        · cases e'
          refine ⟨_, rfl, hown2.cells rfl j _ ?_⟩
          simp [List.getD, List.getElem?_eq_getElem hj]
      have hB := hnx2.size
      clear hown2 hx hi hz0 hz1 hz2
      obtain ⟨i1, hi, hz0, hz1, hz2⟩ := info_parts info_key
      go_wp2_with fail
      go_loopw [7, 32] (fun v i wr => ∃ k : Nat, k ≤ ps.length ∧ i = .int .i64 (k : Int) ∧ wr.ownsRow w2.heap.size 57 2 v k (flat (ps.take k)) ∧ Below w2.heap.size w2 wr) (fun _ i _ => ps.length - (intOf i).toNat)
      case atStart => exact ⟨0, Nat.zero_le _, rfl, World.ownsRow_nil _ _ _ _, Below.refl _ _⟩
      case round =>
        obtain ⟨j, hj, rfl, hown, hnx⟩ := hrel
        by_cases hlt2 : j < ps.length
        · have l1 : (j : Int) < (ps.length : Int) := by omega
          have l0 : (0 : Int) ≤ (j : Int) := by omega
          obtain ⟨b, rfl, hb⟩ := hcell j hlt2
          have zb := (hnx.cell (cell_block_lt hb)).trans hb
          have hp := hmem (ps.getD j 0) (by simp [List.getD, List.getElem?_eq_getElem hlt2])
          have htk : flat (ps.take (j + 1)) = flat (ps.take j) ++ kcs (ps.getD j 0) := by
            rw [List.take_add_one, List.getElem?_eq_getElem hlt2, flat_app]
            simp [flat, List.getD, List.getElem?_eq_getElem hlt2]
          have Htk := Lib.hid htk
          have hat := fun W => at_any (ps.getD j 0) (by omega) W
          have Hat := Lib.hid hat
          clear hb hcell htk hat hmem
          generalize ps.getD j 0 = P at *
          go_wp2_with fail
          have hat2 := Hat.out wr
          rw [show atV P = .agg #[.int .i64 ((atK P).getD (0, 0)).1, .int .i64 ((atK P).getD (0, 0)).2] from rfl] at hat2
          rw [kcs] at Htk
          generalize ((atK P).getD (0, 0)).1 = A at *
          generalize ((atK P).getD (0, 0)).2 = C at *
          generalize (atK P).isSome = D at *
          refine hat2.mono ?_; rintro e w3 ⟨rfl, t3⟩
          have hown1 := own_below hown t3
          have hnx1 := hnx.trans (t3.mono hnx.size)
          have b3 := hnx1.size
          clear Hat hat2 hown hnx t3 zb hp
          go_wp2_with (first
            | (at_builtin; refine wpList_append_own _ rfl _ _ 81 rfl w2.heap.size 57 i1 (.agg #[.int .i64 0, .int .i64 0]) 2 16 Tryz.underlying81 hi hz0 hz1 hz2 rfl (by decide) _ _ _ rfl ((hown1.alloc _).alloc _) ⟨w3.heap.size + 1, 0, none⟩ 1 1 [.int .i64 A, .int .i64 C] rfl rfl ?c1 ?c2 ?c3 ?c4 ?c5 ?_)
            | fail)
          case c1 =>
            intro j u hj
            match j, hj with
            | 0, hj => simp at hj; subst hj; simp [Addr.add]
            | 1, hj => simp at hj; subst hj; simp [Addr.add]
          case c2 => intro u hu; simp at hu; rcases hu with rfl | rfl <;> rfl
          case c3 => unfold maxLen; omega
          case c4 => omega
          case c5 => simp; omega
          intro v' w4 hown' hgrow _
          have R := own_push2 (by simp; omega) (hown1.alloc _) (hnx1.alloc b3 _) hown' hgrow
          rw [← Htk.out] at hown'
          clear hown1 hnx1 hgrow Htk
          go_wp2_with fail
          exact ⟨⟨j + 1, by omega, by go_num, hown', R⟩, by simp [intOf]; omega⟩
        · obtain rfl : j = ps.length := by omega
          rw [List.take_length] at hown
          clear hcell hmem
          go_wp2_with fail
          go_ret
          rw [← Hps.out]
          exact ⟨_, rfl, own_mono hown hB, hnx2.trans (hnx.mono hB)⟩
end Go.Proofs.YtfcgkjbifnhjjaaGreatDoor.St

namespace Go.Proofs.YtfcgkjbifnhjjaaGreatDoor.St
open Go.RowKit
set_option linter.unusedVariables false

attribute [local irreducible] Int.lt Int.le
set_option maxRecDepth 100000 in
theorem same_yes (a b : Option Addr) (n c1 c2 : Nat) (w : World) (hn : n ≤ 1000000) (h : ∀ i, i < n → ∃ x y A C, a = some x ∧ b = some y ∧ w.cell? (x.add (i * 2)) = some (.int .i64 A) ∧ w.cell? ⟨(x.add (i * 2)).block, (x.add (i * 2)).off + 1, none⟩ = some (.int .i64 C) ∧ w.cell? (y.add (i * 2)) = some (.int .i64 A) ∧ w.cell? ⟨(y.add (i * 2)).block, (y.add (i * 2)).off + 1, none⟩ = some (.int .i64 C)) :
    Calls Tryz.prog 44 #[.slice a n c1, .slice b n c2] w fun e w' => e = .returned (.bool true) ∧ Below w.heap.size w w' := by
  go_enter Tryz.func44, Tryz.ntmps44
  go_wp2_with fail
  go_loopw [5] (fun i wr => ∃ k : Nat, k ≤ n ∧ i = .int .i64 (k : Int) ∧ Below w.heap.size w wr) (fun i _ => n - (intOf i).toNat)
  case atStart => exact ⟨0, Nat.zero_le _, rfl, Below.refl _ _⟩
  case round =>
    obtain ⟨k, hk, rfl, hb⟩ := hrel
    by_cases hlt : k < n
    · have l1 : (k : Int) < (n : Int) := by omega
      have l0 : (0 : Int) ≤ (k : Int) := by omega
      obtain ⟨x, y, A, C, rfl, rfl, x0, x1, y0, y1⟩ := h k hlt
      have x0 := (hb.cell (cell_block_lt x0)).trans x0
      have x1 := (hb.cell (cell_block_lt x1)).trans x1
      have y0 := (hb.cell (cell_block_lt y0)).trans y0
      have y1 := (hb.cell (cell_block_lt y1)).trans y1
      clear h
      go_wp2_with fail
      go_quiet (fail)
      have hb' := below_drewN hb nq
      clear x0 x1 y0 y1 hb
      generalize wr.drewN nq = W at *
      go_wp2_with fail
      exact ⟨⟨k + 1, by omega, by go_num, hb'⟩, by simp [intOf]; omega⟩
    · obtain rfl : k = n := by omega
      clear h
      go_wp2_with fail
      go_ret
      exact ⟨rfl, hb⟩
end Go.Proofs.YtfcgkjbifnhjjaaGreatDoor.St
