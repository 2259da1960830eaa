/- The contract of key.Within: is each object of a one of b. No condition but those written in each statement. -/
import Derived.Test.YtncgppdmfnapiaaKeyKi
import Derived.Laws.StructEq
import Derived.BigQuiet
namespace Go.Proofs.Ytncgppdmfnapiaa.St
open Go.RowKit
set_option linter.unusedVariables false

/-- A slice of n keys, as the numbers at its cells. -/
def KR (W : World) (a : Option Addr) (n : Nat) (z : Nat → Int × Int) : Prop := ∀ i, i < n → ∃ x, a = some x ∧ W.cell? (x.add (i * 2)) = some (.int .i64 (z i).1) ∧ W.cell? ⟨(x.add (i * 2)).block, (x.add (i * 2)).off + 1, none⟩ = some (.int .i64 (z i).2)
theorem KR.below {W W' : World} {a : Option Addr} {n : Nat} {z : Nat → Int × Int} (h : KR W a n z) (hb : Below W.heap.size W W') : KR W' a n z := fun i hi => by
  obtain ⟨x, e, c0, c1⟩ := h i hi
  exact ⟨x, e, (hb.cell (cell_block_lt c0)).trans c0, (hb.cell (cell_block_lt c1)).trans c1⟩
/-- Is a key among the first n? -/
def kHas (z : Nat → Int × Int) (n : Nat) (k : Int × Int) : Prop := ∃ i, i < n ∧ z i = k
instance (z : Nat → Int × Int) (n : Nat) (k : Int × Int) : Decidable (kHas z n k) := by unfold kHas; exact inferInstance

attribute [local irreducible] Int.lt Int.le
set_option maxRecDepth 100000 in
theorem kindex_any (a : Option Addr) (n c : Nat) (z : Nat → Int × Int) (k m : Int) (w : World) (hn : n ≤ 1000000) (h : KR w a n z) :
    Calls Try.prog 63 #[.slice a n c, .agg #[.int .i64 k, .int .i64 m]] w fun e w' => ∃ r : Int, e = .returned (.int .i64 r) ∧ (0 ≤ r ↔ kHas z n (k, m)) ∧ Below w.heap.size w w' := by
  go_enter Try.func63, Try.ntmps63
  go_upto_region 1 with fail
  have k0 : blk (w.alloc (Obj.cells #[Value.int IntKind.i64 k, Value.int IntKind.i64 m] 23)) w.heap.size = some (.cells #[.int .i64 k, .int .i64 m] 23 (0, 0)) := blk_alloc_at _ _ _ rfl
  have bel0 : Below w.heap.size w (w.alloc (Obj.cells #[Value.int IntKind.i64 k, Value.int IntKind.i64 m] 23)) := (Below.refl _ _).alloc (Nat.le_refl _) _
  have h0 := h.below bel0
  have g0 := cell_of_row _ _ 0 _ _ _ k0
  have g1 := cell_of_row _ _ 1 _ _ _ k0
  clear h k0
  generalize w.alloc (Obj.cells #[Value.int IntKind.i64 k, Value.int IntKind.i64 m] 23) = W0 at *
  obtain ⟨G, hG⟩ : ∃ G, G = w.heap.size := ⟨_, rfl⟩
  rw [← hG] at g0 g1
  rw [← hG]
  clear hG
  go_wp2_with fail
  go_loopw [8] (fun i wr => ∃ j : Nat, j ≤ n ∧ i = .int .i64 (j : Int) ∧ Below W0.heap.size W0 wr ∧ ∀ t, t < j → z t ≠ (k, m)) (fun i _ => n - (intOf i).toNat)
  case atStart => exact ⟨0, Nat.zero_le _, rfl, Below.refl _ _, fun t ht => absurd ht (by omega)⟩
  case round =>
    obtain ⟨j, hj, rfl, hb, hne⟩ := hrel
    by_cases hlt : j < n
    · have l1 : (j : Int) < (n : Int) := by omega
      have l0 : (0 : Int) ≤ (j : Int) := by omega
      obtain ⟨x, rfl, x0, x1⟩ := h0 j hlt
      have y0 := (hb.cell (cell_block_lt x0)).trans x0
      have y1 := (hb.cell (cell_block_lt x1)).trans x1
      have q0 := (hb.cell (cell_block_lt g0)).trans g0
      have q1 := (hb.cell (cell_block_lt g1)).trans g1
      simp at q0 q1
      have bF := fun q => below_drewN (bel0.trans (hb.mono bel0.size)) q
      by_cases he : z j = (k, m)
      · have hr : 0 ≤ (j : Int) ↔ kHas z n (k, m) := ⟨fun _ => ⟨j, hlt, he⟩, fun _ => l0⟩
        rw [he] at y0 y1
        have Hr := Lib.hid hr
        clear h0 hne hr x0 x1 g0 g1 hb bel0 he
        go_wp2_with fail
        go_quiet (fail)
        go_wp2_with fail
        go_ret
        exact ⟨_, rfl, Hr.out, bF nq⟩
      · have hne2 : ∀ t, t < j + 1 → z t ≠ (k, m) := fun t ht => by
          by_cases q : t = j
          · rw [q]; exact he
          · exact hne t (by omega)
        have hd : ¬ (k = (z j).1 ∧ m = (z j).2) := fun q => he (by rw [q.1, q.2])
        have hb' := fun q => below_drewN hb q
        have Hne := Lib.hid hne2
        clear h0 hne hne2 x0 x1 he bF
        generalize (z j).1 = A at *
        generalize (z j).2 = C at *
        rcases (show (k ≠ A) ∨ (k = A ∧ m ≠ C) by omega) with n1 | ⟨rfl, n1⟩
        case' inl => have n2 : (k == A) = false := beq_eq_false_iff_ne.2 n1
        case' inr => have n2 : (m == C) = false := beq_eq_false_iff_ne.2 n1
        all_goals
          have n3 := Ne.symm n1
          clear hd
          go_wp2_with fail
          go_quiet (fail)
          have hb2 := hb' nq
          clear y0 y1 q0 q1 hb hb'
          generalize wr.drewN nq = W at *
          go_wp2_with fail
          exact ⟨⟨j + 1, by omega, by go_num, hb2, Hne.out⟩, by simp [intOf]; omega⟩
    · obtain rfl : j = n := by omega
      have hr : 0 ≤ (-1 : Int) ↔ kHas z j (k, m) := ⟨fun q => absurd q (by decide), fun ⟨t, ht, e⟩ => absurd e (hne t ht)⟩
      have bF := bel0.trans (hb.mono bel0.size)
      clear h0 hne
      go_wp2_with fail
      go_ret
      exact ⟨_, rfl, hr, bF⟩

set_option maxRecDepth 100000 in
theorem kcontains_any (a : Option Addr) (n c : Nat) (z : Nat → Int × Int) (k m : Int) (w : World) (hn : n ≤ 1000000) (h : KR w a n z) :
    Calls Try.prog 52 #[.slice a n c, .agg #[.int .i64 k, .int .i64 m]] w fun e w' => e = .returned (.bool (decide (kHas z n (k, m)))) ∧ Below w.heap.size w w' := by
  go_enter Try.func52, Try.ntmps52
  go_wp2_with fail
  have bel0 : Below w.heap.size w (w.alloc (Obj.cells #[Value.int IntKind.i64 k, Value.int IntKind.i64 m] 23)) := (Below.refl _ _).alloc (Nat.le_refl _) _
  have h0 := h.below bel0
  generalize w.alloc (Obj.cells #[Value.int IntKind.i64 k, Value.int IntKind.i64 m] 23) = W0 at *
  refine (kindex_any a n c z k m W0 hn h0).mono ?_; rintro e W1 ⟨r, rfl, hr, t1⟩
  have bF := bel0.trans (t1.mono bel0.size)
  have hd : decide (0 ≤ r) = decide (kHas z n (k, m)) := decide_eq_decide.2 hr
  have Hd := Lib.hid hd
  clear h h0 hd hr
  go_wp2_with fail
  go_ret
  exact ⟨by rw [← Hd.out]; rfl, bF⟩

/-- What the function literal of key.Within asks of a key: it is there, and is none of b. -/
def kLacks (z : Nat → Int × Int) (n : Nat) (k m : Int) : Bool := decide (0 ≤ placeI k m) && !decide (kHas z n (k, m))

set_option maxRecDepth 100000 in
theorem klit_any (b : Option Addr) (n c : Nat) (z : Nat → Int × Int) (k m : Int) (X : Nat) (w : World) (hn : n ≤ 1000000) (h : KR w b n z) (hX : w.cell? ⟨X, 0, none⟩ = some (.slice b n c)) :
    Calls Try.prog 51 #[.agg #[.int .i64 k, .int .i64 m], .pointer (some ⟨X, 0, none⟩)] w fun e w' => e = .returned (.bool (kLacks z n k m)) ∧ Below w.heap.size w w' := by
  go_enter Try.func51, Try.ntmps51
  go_wp2_with fail
  have k0 : blk (w.alloc (Obj.cells #[Value.int IntKind.i64 k, Value.int IntKind.i64 m] 23)) w.heap.size = some (.cells #[.int .i64 k, .int .i64 m] 23 (0, 0)) := blk_alloc_at _ _ _ rfl
  have bel0 : Below w.heap.size w (w.alloc (Obj.cells #[Value.int IntKind.i64 k, Value.int IntKind.i64 m] 23)) := (Below.refl _ _).alloc (Nat.le_refl _) _
  have h0 := h.below bel0
  have x0 := (bel0.cell (cell_block_lt hX)).trans hX
  generalize w.alloc (Obj.cells #[Value.int IntKind.i64 k, Value.int IntKind.i64 m] 23) = W0 at *
  obtain ⟨G, hG⟩ : ∃ G, G = w.heap.size := ⟨_, rfl⟩
  rw [← hG] at k0
  simp only [← hG]
  clear hG
  refine (place_any k m W0).mono ?_; rintro e W1 ⟨rfl, t1⟩
  have h1 := h0.below t1
  have x1 := (t1.cell (cell_block_lt x0)).trans x0
  have k1 := blk_kept k0 t1
  have bel1 := bel0.trans (t1.mono bel0.size)
  clear h hX h0 x0 k0 bel0 t1
  have g0 := cell_of_row _ _ 0 _ _ _ k1
  have g1 := cell_of_row _ _ 1 _ _ _ k1
  simp at g0 g1
  by_cases hp : 0 ≤ placeI k m
  · have hl : kLacks z n k m = !decide (kHas z n (k, m)) := by unfold kLacks; rw [decide_eq_true hp]; rfl
    have Hl := Lib.hid hl
    clear hl
    generalize placeI k m = P at *
    go_wp2_with fail
    refine (kcontains_any b n c z k m W1 hn h1).mono ?_; rintro e W2 ⟨rfl, t2⟩
    have bF := bel1.trans (t2.mono bel1.size)
    clear h1 x1 k1 bel1 t2 g0 g1
    generalize decide (kHas z n (k, m)) = Q at *
    go_wp2_with fail
    go_ret
    exact ⟨by rw [Hl.out]; rfl, bF⟩
  · have hl : kLacks z n k m = false := by unfold kLacks; rw [decide_eq_false hp]; rfl
    have Hl := Lib.hid hl
    clear hl
    generalize placeI k m = P at *
    go_wp2_with fail
    go_ret
    exact ⟨by rw [Hl.out]; rfl, bel1⟩

set_option maxRecDepth 100000 in
theorem kindexf_any (a b : Option Addr) (l n c c2 : Nat) (y z : Nat → Int × Int) (X : Nat) (w : World) (hl : l ≤ 1000000) (hn : n ≤ 1000000) (ha : KR w a l y) (h : KR w b n z) (hX : w.cell? ⟨X, 0, none⟩ = some (.slice b n c)) :
    Calls Try.prog 62 #[.slice a l c2, .func (.func 51) #[] #[.pointer (some ⟨X, 0, none⟩)]] w fun e w' => ∃ r : Int, e = .returned (.int .i64 r) ∧ (0 ≤ r ↔ ∃ i, i < l ∧ kLacks z n (y i).1 (y i).2 = true) ∧ Below w.heap.size w w' := by
  go_enter Try.func62, Try.ntmps62
  go_wp2_with fail
  go_loopw [8] (fun i wr => ∃ j : Nat, j ≤ l ∧ i = .int .i64 (j : Int) ∧ Below w.heap.size w wr ∧ ∀ t, t < j → kLacks z n (y t).1 (y t).2 = false) (fun i _ => l - (intOf i).toNat)
  case atStart => exact ⟨0, Nat.zero_le _, rfl, Below.refl _ _, fun t ht => absurd ht (by omega)⟩
  case round =>
    obtain ⟨j, hj, rfl, hb, hne⟩ := hrel
    by_cases hlt : j < l
    · have l1 : (j : Int) < (l : Int) := by omega
      have l0 : (0 : Int) ≤ (j : Int) := by omega
      obtain ⟨x, rfl, x0, x1⟩ := ha j hlt
      have y0 := (hb.cell (cell_block_lt x0)).trans x0
      have y1 := (hb.cell (cell_block_lt x1)).trans x1
      have hk := klit_any b n c z (y j).1 (y j).2 X wr hn (h.below hb) ((hb.cell (cell_block_lt hX)).trans hX)
      cases hv : kLacks z n (y j).1 (y j).2 with
      | true =>
        have hr : 0 ≤ (j : Int) ↔ ∃ i, i < l ∧ kLacks z n (y i).1 (y i).2 = true := ⟨fun _ => ⟨j, hlt, hv⟩, fun _ => l0⟩
        rw [hv] at hk
        have Hk := Lib.hid hk
        have Hr := Lib.hid hr
        clear ha h hX hne hk hr x0 x1 hv
        generalize (y j).1 = A at *
        generalize (y j).2 = C at *
        go_wp2_with fail
        refine Hk.out.mono ?_; rintro e W1 ⟨rfl, t1⟩
        have bF := hb.trans (t1.mono hb.size)
        clear y0 y1 t1 hb Hk
        go_wp2_with fail
        go_ret
        exact ⟨_, rfl, Hr.out, bF⟩
      | false =>
        have hne2 : ∀ t, t < j + 1 → kLacks z n (y t).1 (y t).2 = false := fun t ht => by
          by_cases q : t = j
          · rw [q]; exact hv
          · exact hne t (by omega)
        rw [hv] at hk
        have Hk := Lib.hid hk
        have Hne := Lib.hid hne2
        clear ha h hX hne hk hne2 x0 x1 hv
        generalize (y j).1 = A at *
        generalize (y j).2 = C at *
        go_wp2_with fail
        refine Hk.out.mono ?_; rintro e W1 ⟨rfl, t1⟩
        have bF := hb.trans (t1.mono hb.size)
        clear y0 y1 t1 hb Hk
        go_wp2_with fail
        exact ⟨⟨j + 1, by omega, by go_num, bF, Hne.out⟩, by simp [intOf]; omega⟩
    · obtain rfl : j = l := by omega
      have hr : 0 ≤ (-1 : Int) ↔ ∃ i, i < j ∧ kLacks z n (y i).1 (y i).2 = true := ⟨fun q => absurd q (by decide), fun ⟨t, ht, e⟩ => by rw [hne t ht] at e; cases e⟩
      have Hr := Lib.hid hr
      clear ha h hX hne hr
      go_wp2_with fail
      go_ret
      exact ⟨_, rfl, Hr.out, hb⟩

set_option maxRecDepth 100000 in
theorem kcontainsf_any (a b : Option Addr) (l n c c2 : Nat) (y z : Nat → Int × Int) (X : Nat) (w : World) (hl : l ≤ 1000000) (hn : n ≤ 1000000) (ha : KR w a l y) (h : KR w b n z) (hX : w.cell? ⟨X, 0, none⟩ = some (.slice b n c)) :
    Calls Try.prog 50 #[.slice a l c2, .func (.func 51) #[] #[.pointer (some ⟨X, 0, none⟩)]] w fun e w' => ∃ r : Bool, e = .returned (.bool r) ∧ (r = true ↔ ∃ i, i < l ∧ kLacks z n (y i).1 (y i).2 = true) ∧ Below w.heap.size w w' := by
  go_enter Try.func50, Try.ntmps50
  go_wp2_with fail
  refine (kindexf_any a b l n c c2 y z X w hl hn ha h hX).mono ?_; rintro e W1 ⟨r, rfl, hr, t1⟩
  have hd : decide (0 ≤ r) = true ↔ ∃ i, i < l ∧ kLacks z n (y i).1 (y i).2 = true := by rw [decide_eq_true_iff]; exact hr
  have Hd := Lib.hid hd
  clear ha h hX hr hd
  go_wp2_with fail
  go_ret
  exact ⟨_, rfl, Hd.out, t1⟩

/-- key.Within: every key of a that is there is one of b. -/
def kWithin (y : Nat → Int × Int) (l : Nat) (z : Nat → Int × Int) (n : Nat) : Prop := ∀ i, i < l → kLacks z n (y i).1 (y i).2 = false
set_option maxRecDepth 100000 in
theorem kwithin_any (a b : Option Addr) (l n c c2 : Nat) (y z : Nat → Int × Int) (w : World) (hl : l ≤ 1000000) (hn : n ≤ 1000000) (ha : KR w a l y) (h : KR w b n z) :
    Calls Try.prog 22 #[.slice a l c2, .slice b n c] w fun e w' => ∃ r : Bool, e = .returned (.bool r) ∧ (r = true ↔ kWithin y l z n) ∧ Below w.heap.size w w' := by
  have hmf : ∀ (fn : Fn) (first cap : Array Value) (w : World), (Instr.makeFunc fn first cap).run Try.prog w = .ok (.func fn first cap) w := fun _ _ _ _ => rfl
  go_enter Try.func22, Try.ntmps22
  go_upto_region 1 with fail
  have k0 : blk (w.alloc (Obj.cells #[Value.slice b n c] 29)) w.heap.size = some (.cells #[.slice b n c] 29 (0, 0)) := blk_alloc_at _ _ _ rfl
  have bel0 : Below w.heap.size w (w.alloc (Obj.cells #[Value.slice b n c] 29)) := (Below.refl _ _).alloc (Nat.le_refl _) _
  have ha0 := ha.below bel0
  have h0 := h.below bel0
  have x0 := cell_of_row _ _ 0 _ _ _ k0
  have x1 : (w.alloc (Obj.cells #[Value.slice b n c] 29)).cell? ⟨w.heap.size, 0, none⟩ = some (.slice b n c) := x0
  have HC := fun X W hX hA hB => kcontainsf_any a b l n c c2 y z X W hl hn hA hB hX
  have hc := HC _ _ x1 ha0 h0
  have Hc := Lib.hid hc
  clear ha h ha0 h0 x0 x1 k0 HC hc
  go_wp2_with fail
  refine Hc.out.mono ?_; rintro e W1 ⟨r, rfl, hr, t1⟩
  have bF := bel0.trans (t1.mono bel0.size)
  have hd : (!r) = true ↔ kWithin y l z n := by
    unfold kWithin
    constructor
    · intro q i hi
      cases hv : kLacks z n (y i).1 (y i).2 with
      | false => rfl
      | true => rw [hr.2 ⟨i, hi, hv⟩] at q; cases q
    · intro q
      cases r with
      | false => rfl
      | true =>
        obtain ⟨i, hi, hv⟩ := hr.1 rfl
        rw [q i hi] at hv; cases hv
  have Hd := Lib.hid hd
  clear hr hd bel0 t1 Hc
  go_wp2_with fail
  go_ret
  exact ⟨_, rfl, Hd.out, bF⟩
end Go.Proofs.Ytncgppdmfnapiaa.St
