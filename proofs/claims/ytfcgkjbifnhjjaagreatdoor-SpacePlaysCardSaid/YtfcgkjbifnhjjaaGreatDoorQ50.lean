/- Small lemmas for the walks of this seat: quiet regions behind quiet regions, what only some blocks have turned. The contracts of package key's numbers: how many objects of a kind there are, how many ahead of a kind, the place of a key. No condition but those written in each statement. -/
import Derived.Test.YtfcgkjbifnhjjaaGreatDoorRows
import Derived.WalkKit
import Derived.WalkLawsBesides
import Derived.RowKit3
import Derived.Outline
import Derived.Lib.Hide
import Derived.BigQuiet
import Derived.Deep.QuietTactic
import Derived.StillTailTactics
import Derived.LoopTactic
import Derived.Below
namespace Go.Proofs.YtfcgkjbifnhjjaaGreatDoor.St
open Go.RowKit

theorem ret_int {k : IntKind} {a b : Int} (h : a = b) : Ending.returned (.int k a) = .returned (.int k b) := by rw [h]
theorem ret_bool {a b : Bool} (h : a = b) : Ending.returned (.bool a) = .returned (.bool b) := by rw [h]

theorem quiet_left {P : Program} {f : FuncId} {args : Array Value} {w : World} {n : Nat} {v : Value}
    (h : Calls P f args (w.drewN n) fun e w' => e = .returned v ∧ w.drewN n = w') : Calls P f args (w.drewN n) fun e w'' => e = .returned v ∧ ∃ m, w'' = w.drewN m :=
  h.mono fun _ _ ⟨he, hm⟩ => ⟨he, n, hm.symm⟩
theorem quiet_add {P : Program} {f : FuncId} {args : Array Value} {w : World} {a n : Nat} {v : Value}
    (h : Calls P f args (w.drewN (a + n)) fun e w' => e = .returned v ∧ w.drewN (a + n) = w') :
    Calls P f args (w.drewN (a + n)) fun e w'' => e = .returned v ∧ ∃ m, w'' = w.drewN (a + m) :=
  h.mono fun _ _ ⟨he, hm⟩ => ⟨he, n, hm.symm⟩

theorem below_drewN {B : Nat} {a w : World} (h : Below B a w) (n : Nat) : Below B a (w.drewN n) := h.trans ⟨rfl, rfl, rfl, Nat.le_refl _, fun _ _ => rfl⟩

/-- Only blocks of S, and what is new, have turned. -/
structure Turn (S : Nat → Prop) (a w : World) : Prop where
  os : w.os = a.os
  tape : w.tape = a.tape
  output : w.output = a.output
  size : a.heap.size ≤ w.heap.size
  block : ∀ b, b < a.heap.size → ¬ S b → w.heap[b]? = a.heap[b]?

theorem Turn.refl (S : Nat → Prop) (a : World) : Turn S a a := ⟨rfl, rfl, rfl, Nat.le_refl _, fun _ _ _ => rfl⟩
theorem Turn.trans {S : Nat → Prop} {a b c : World} (h : Turn S a b) (k : Turn S b c) : Turn S a c :=
  ⟨k.os.trans h.os, k.tape.trans h.tape, k.output.trans h.output, Nat.le_trans h.size k.size, fun i hi hn => (k.block i (Nat.lt_of_lt_of_le hi h.size) hn).trans (h.block i hi hn)⟩
theorem Turn.mono {S T : Nat → Prop} {a b : World} (h : Turn S a b) (q : ∀ i, i < a.heap.size → S i → T i) : Turn T a b :=
  ⟨h.os, h.tape, h.output, h.size, fun i hi hn => h.block i hi (fun s => hn (q i hi s))⟩
theorem Turn.drewN {S : Nat → Prop} {a w : World} (h : Turn S a w) (n : Nat) : Turn S a (w.drewN n) := ⟨h.os, h.tape, h.output, h.size, h.block⟩
theorem Turn.drew {S : Nat → Prop} {a w : World} (h : Turn S a w) : Turn S a w.drew := ⟨h.os, h.tape, h.output, h.size, h.block⟩
theorem Turn.alloc {S : Nat → Prop} {a w : World} (h : Turn S a w) (o : Obj) : Turn S a (w.alloc o) :=
  ⟨h.os, h.tape, h.output, Nat.le_trans h.size (by simp), fun i hi hn => (Below.heap_alloc w o i (Nat.lt_of_lt_of_le hi h.size)).trans (h.block i hi hn)⟩
theorem Turn.setCell {S : Nat → Prop} {a w : World} (h : Turn S a w) {p : Addr} (hp : S p.block ∨ a.heap.size ≤ p.block) (u : Value) : Turn S a (w.setCell p u) :=
  ⟨h.os, h.tape, h.output, by simpa [World.setCell] using h.size, fun i hi hn => (Below.heap_setCell w p u i (by
    rintro rfl
    rcases hp with hp | hp
    · exact hn hp
    · omega)).trans (h.block i hi hn)⟩
theorem Turn.of_below {a w : World} (h : Below a.heap.size a w) (S : Nat → Prop) : Turn S a w := ⟨h.os, h.tape, h.output, h.size, fun i hi _ => h.block i hi⟩
/-- What was turned lies from B on: below B nothing has turned. -/
theorem Turn.below {S : Nat → Prop} {a w : World} (h : Turn S a w) {B : Nat} (hB : B ≤ a.heap.size) (hS : ∀ i, S i → B ≤ i) : Below B a w :=
  ⟨h.os, h.tape, h.output, h.size, fun i hi => h.block i (by omega) (fun s => by have := hS i s; omega)⟩

/-! ### Which operation of a region is run, for rules that look at it -/
section
variable (P : Program) (a : Act) (w : World) (K : Act → World → Prop) (Q : Exit → Act → World → Prop) (l : List Oper)
theorem wp_at0 (o0 : Oper) (h : 0 < (List.toArray (o0 :: l)).size) : Oper.wp P ((List.toArray (o0 :: l))[0]) a w K Q = Oper.wp P o0 a w K Q := by simp
theorem wp_at1 (o0 o1 : Oper) (h : 1 < (List.toArray (o0 :: o1 :: l)).size) : Oper.wp P ((List.toArray (o0 :: o1 :: l))[1]) a w K Q = Oper.wp P o1 a w K Q := by simp
theorem wp_at2 (o0 o1 o2 : Oper) (h : 2 < (List.toArray (o0 :: o1 :: o2 :: l)).size) : Oper.wp P ((List.toArray (o0 :: o1 :: o2 :: l))[2]) a w K Q = Oper.wp P o2 a w K Q := by simp
theorem wp_at3 (o0 o1 o2 o3 : Oper) (h : 3 < (List.toArray (o0 :: o1 :: o2 :: o3 :: l)).size) : Oper.wp P ((List.toArray (o0 :: o1 :: o2 :: o3 :: l))[3]) a w K Q = Oper.wp P o3 a w K Q := by simp
theorem wp_at4 (o0 o1 o2 o3 o4 : Oper) (h : 4 < (List.toArray (o0 :: o1 :: o2 :: o3 :: o4 :: l)).size) : Oper.wp P ((List.toArray (o0 :: o1 :: o2 :: o3 :: o4 :: l))[4]) a w K Q = Oper.wp P o4 a w K Q := by simp
theorem wp_at5 (o0 o1 o2 o3 o4 o5 : Oper) (h : 5 < (List.toArray (o0 :: o1 :: o2 :: o3 :: o4 :: o5 :: l)).size) : Oper.wp P ((List.toArray (o0 :: o1 :: o2 :: o3 :: o4 :: o5 :: l))[5]) a w K Q = Oper.wp P o5 a w K Q := by simp
theorem wp_at6 (o0 o1 o2 o3 o4 o5 o6 : Oper) (h : 6 < (List.toArray (o0 :: o1 :: o2 :: o3 :: o4 :: o5 :: o6 :: l)).size) : Oper.wp P ((List.toArray (o0 :: o1 :: o2 :: o3 :: o4 :: o5 :: o6 :: l))[6]) a w K Q = Oper.wp P o6 a w K Q := by simp
theorem wp_at7 (o0 o1 o2 o3 o4 o5 o6 o7 : Oper) (h : 7 < (List.toArray (o0 :: o1 :: o2 :: o3 :: o4 :: o5 :: o6 :: o7 :: l)).size) : Oper.wp P ((List.toArray (o0 :: o1 :: o2 :: o3 :: o4 :: o5 :: o6 :: o7 :: l))[7]) a w K Q = Oper.wp P o7 a w K Q := by simp
theorem wp_at8 (o0 o1 o2 o3 o4 o5 o6 o7 o8 : Oper) (h : 8 < (List.toArray (o0 :: o1 :: o2 :: o3 :: o4 :: o5 :: o6 :: o7 :: o8 :: l)).size) : Oper.wp P ((List.toArray (o0 :: o1 :: o2 :: o3 :: o4 :: o5 :: o6 :: o7 :: o8 :: l))[8]) a w K Q = Oper.wp P o8 a w K Q := by simp
theorem wp_at9 (o0 o1 o2 o3 o4 o5 o6 o7 o8 o9 : Oper) (h : 9 < (List.toArray (o0 :: o1 :: o2 :: o3 :: o4 :: o5 :: o6 :: o7 :: o8 :: o9 :: l)).size) : Oper.wp P ((List.toArray (o0 :: o1 :: o2 :: o3 :: o4 :: o5 :: o6 :: o7 :: o8 :: o9 :: l))[9]) a w K Q = Oper.wp P o9 a w K Q := by simp
theorem wp_at10 (o0 o1 o2 o3 o4 o5 o6 o7 o8 o9 o10 : Oper) (h : 10 < (List.toArray (o0 :: o1 :: o2 :: o3 :: o4 :: o5 :: o6 :: o7 :: o8 :: o9 :: o10 :: l)).size) : Oper.wp P ((List.toArray (o0 :: o1 :: o2 :: o3 :: o4 :: o5 :: o6 :: o7 :: o8 :: o9 :: o10 :: l))[10]) a w K Q = Oper.wp P o10 a w K Q := by simp
theorem wp_at11 (o0 o1 o2 o3 o4 o5 o6 o7 o8 o9 o10 o11 : Oper) (h : 11 < (List.toArray (o0 :: o1 :: o2 :: o3 :: o4 :: o5 :: o6 :: o7 :: o8 :: o9 :: o10 :: o11 :: l)).size) : Oper.wp P ((List.toArray (o0 :: o1 :: o2 :: o3 :: o4 :: o5 :: o6 :: o7 :: o8 :: o9 :: o10 :: o11 :: l))[11]) a w K Q = Oper.wp P o11 a w K Q := by simp
theorem wp_at12 (o0 o1 o2 o3 o4 o5 o6 o7 o8 o9 o10 o11 o12 : Oper) (h : 12 < (List.toArray (o0 :: o1 :: o2 :: o3 :: o4 :: o5 :: o6 :: o7 :: o8 :: o9 :: o10 :: o11 :: o12 :: l)).size) : Oper.wp P ((List.toArray (o0 :: o1 :: o2 :: o3 :: o4 :: o5 :: o6 :: o7 :: o8 :: o9 :: o10 :: o11 :: o12 :: l))[12]) a w K Q = Oper.wp P o12 a w K Q := by simp
theorem wp_at13 (o0 o1 o2 o3 o4 o5 o6 o7 o8 o9 o10 o11 o12 o13 : Oper) (h : 13 < (List.toArray (o0 :: o1 :: o2 :: o3 :: o4 :: o5 :: o6 :: o7 :: o8 :: o9 :: o10 :: o11 :: o12 :: o13 :: l)).size) : Oper.wp P ((List.toArray (o0 :: o1 :: o2 :: o3 :: o4 :: o5 :: o6 :: o7 :: o8 :: o9 :: o10 :: o11 :: o12 :: o13 :: l))[13]) a w K Q = Oper.wp P o13 a w K Q := by simp
theorem wp_at14 (o0 o1 o2 o3 o4 o5 o6 o7 o8 o9 o10 o11 o12 o13 o14 : Oper) (h : 14 < (List.toArray (o0 :: o1 :: o2 :: o3 :: o4 :: o5 :: o6 :: o7 :: o8 :: o9 :: o10 :: o11 :: o12 :: o13 :: o14 :: l)).size) : Oper.wp P ((List.toArray (o0 :: o1 :: o2 :: o3 :: o4 :: o5 :: o6 :: o7 :: o8 :: o9 :: o10 :: o11 :: o12 :: o13 :: o14 :: l))[14]) a w K Q = Oper.wp P o14 a w K Q := by simp
theorem wp_at15 (o0 o1 o2 o3 o4 o5 o6 o7 o8 o9 o10 o11 o12 o13 o14 o15 : Oper) (h : 15 < (List.toArray (o0 :: o1 :: o2 :: o3 :: o4 :: o5 :: o6 :: o7 :: o8 :: o9 :: o10 :: o11 :: o12 :: o13 :: o14 :: o15 :: l)).size) : Oper.wp P ((List.toArray (o0 :: o1 :: o2 :: o3 :: o4 :: o5 :: o6 :: o7 :: o8 :: o9 :: o10 :: o11 :: o12 :: o13 :: o14 :: o15 :: l))[15]) a w K Q = Oper.wp P o15 a w K Q := by simp
theorem wp_at16 (o0 o1 o2 o3 o4 o5 o6 o7 o8 o9 o10 o11 o12 o13 o14 o15 o16 : Oper) (h : 16 < (List.toArray (o0 :: o1 :: o2 :: o3 :: o4 :: o5 :: o6 :: o7 :: o8 :: o9 :: o10 :: o11 :: o12 :: o13 :: o14 :: o15 :: o16 :: l)).size) : Oper.wp P ((List.toArray (o0 :: o1 :: o2 :: o3 :: o4 :: o5 :: o6 :: o7 :: o8 :: o9 :: o10 :: o11 :: o12 :: o13 :: o14 :: o15 :: o16 :: l))[16]) a w K Q = Oper.wp P o16 a w K Q := by simp
theorem wp_at17 (o0 o1 o2 o3 o4 o5 o6 o7 o8 o9 o10 o11 o12 o13 o14 o15 o16 o17 : Oper) (h : 17 < (List.toArray (o0 :: o1 :: o2 :: o3 :: o4 :: o5 :: o6 :: o7 :: o8 :: o9 :: o10 :: o11 :: o12 :: o13 :: o14 :: o15 :: o16 :: o17 :: l)).size) : Oper.wp P ((List.toArray (o0 :: o1 :: o2 :: o3 :: o4 :: o5 :: o6 :: o7 :: o8 :: o9 :: o10 :: o11 :: o12 :: o13 :: o14 :: o15 :: o16 :: o17 :: l))[17]) a w K Q = Oper.wp P o17 a w K Q := by simp
theorem wp_at18 (o0 o1 o2 o3 o4 o5 o6 o7 o8 o9 o10 o11 o12 o13 o14 o15 o16 o17 o18 : Oper) (h : 18 < (List.toArray (o0 :: o1 :: o2 :: o3 :: o4 :: o5 :: o6 :: o7 :: o8 :: o9 :: o10 :: o11 :: o12 :: o13 :: o14 :: o15 :: o16 :: o17 :: o18 :: l)).size) : Oper.wp P ((List.toArray (o0 :: o1 :: o2 :: o3 :: o4 :: o5 :: o6 :: o7 :: o8 :: o9 :: o10 :: o11 :: o12 :: o13 :: o14 :: o15 :: o16 :: o17 :: o18 :: l))[18]) a w K Q = Oper.wp P o18 a w K Q := by simp
theorem wp_at19 (o0 o1 o2 o3 o4 o5 o6 o7 o8 o9 o10 o11 o12 o13 o14 o15 o16 o17 o18 o19 : Oper) (h : 19 < (List.toArray (o0 :: o1 :: o2 :: o3 :: o4 :: o5 :: o6 :: o7 :: o8 :: o9 :: o10 :: o11 :: o12 :: o13 :: o14 :: o15 :: o16 :: o17 :: o18 :: o19 :: l)).size) : Oper.wp P ((List.toArray (o0 :: o1 :: o2 :: o3 :: o4 :: o5 :: o6 :: o7 :: o8 :: o9 :: o10 :: o11 :: o12 :: o13 :: o14 :: o15 :: o16 :: o17 :: o18 :: o19 :: l))[19]) a w K Q = Oper.wp P o19 a w K Q := by simp
end

end Go.Proofs.YtfcgkjbifnhjjaaGreatDoor.St

namespace Go.Proofs.YtfcgkjbifnhjjaaGreatDoor.St
open Go.RowKit
set_option linter.unusedVariables false

/-- How many objects of a kind there are. -/
def manyI (k : Int) : Int := if k = 4 ∨ k = 12 then 8 else if k = 6 then 12 else if k = 8 then 4 else if k = 10 then 16 else if k < 1 ∨ 12 < k then 0 else 1

/-- How many objects stand ahead of a kind. -/
def aheadN : Nat → Int
  | 0 => 0
  | n + 1 => aheadN n + if n = 0 then 0 else manyI n
def aheadI (k : Int) : Int := aheadN k.toNat

/-- The place of a key; -1: there is none. -/
def placeI (k n : Int) : Int := if n < 0 ∨ manyI k ≤ n then -1 else aheadI k + n

theorem many_any (k : Int) (w : World) :
    Calls Tryz.prog 102 #[.int .i64 k] w fun e w' => e = .returned (.int .i64 (manyI k)) ∧ w = w' := by
  by_cases h1 : k = 4
  · subst h1
    go_enter Tryz.func102, Tryz.ntmps102
    go_wp2
    go_ret
    exact ⟨rfl, rfl⟩
  · by_cases h2 : k = 12
    · subst h2
      clear h1
      go_enter Tryz.func102, Tryz.ntmps102
      go_wp2
      go_ret
      exact ⟨rfl, rfl⟩
    · by_cases h3 : k = 6
      · subst h3
        clear h1 h2
        go_enter Tryz.func102, Tryz.ntmps102
        go_wp2
        go_ret
        exact ⟨rfl, rfl⟩
      · by_cases h4 : k = 8
        · subst h4
          clear h1 h2 h3
          go_enter Tryz.func102, Tryz.ntmps102
          go_wp2
          go_ret
          exact ⟨rfl, rfl⟩
        · by_cases h5 : k = 10
          · subst h5
            clear h1 h2 h3 h4
            go_enter Tryz.func102, Tryz.ntmps102
            go_wp2
            go_ret
            exact ⟨rfl, rfl⟩
          · have b1 : (k == 4) = false := beq_eq_false_iff_ne.2 h1
            have b2 : (k == 12) = false := beq_eq_false_iff_ne.2 h2
            have b3 : (k == 6) = false := beq_eq_false_iff_ne.2 h3
            have b4 : (k == 8) = false := beq_eq_false_iff_ne.2 h4
            have b5 : (k == 10) = false := beq_eq_false_iff_ne.2 h5
            have hv : ∀ c, (k < 1 ∨ 12 < k → c = 0) → (1 ≤ k ∧ k ≤ 12 → c = 1) → c = manyI k := by
              intro c c1 c2
              unfold manyI
              rw [if_neg (by omega), if_neg h3, if_neg h4, if_neg h5]
              by_cases q : k < 1 ∨ 12 < k
              · rw [if_pos q]; exact c1 q
              · rw [if_neg q]; exact c2 (by omega)
            have Hv := Lib.hid hv
            clear h1 h2 h3 h4 h5 hv
            by_cases c1 : k < 1
            · go_enter Tryz.func102, Tryz.ntmps102
              go_wp2
              go_ret
              exact ⟨ret_int (Hv.out _ (fun _ => rfl) (fun q => by omega)), rfl⟩
            · by_cases c2 : 12 < k
              · have d1 : decide (k < 1) = false := decide_eq_false c1
                go_enter Tryz.func102, Tryz.ntmps102
                go_wp2
                go_ret
                exact ⟨ret_int (Hv.out _ (fun _ => rfl) (fun q => by omega)), rfl⟩
              · have d1 : decide (k < 1) = false := decide_eq_false c1
                have d2 : decide (12 < k) = false := decide_eq_false c2
                go_enter Tryz.func102, Tryz.ntmps102
                go_wp2
                go_ret
                exact ⟨ret_int (Hv.out _ (fun q => by omega) (fun _ => rfl)), rfl⟩

theorem aheadN_succ (n : Nat) (h : 1 ≤ n) : aheadN (n + 1) = aheadN n + manyI n := by
  show aheadN n + (if n = 0 then 0 else manyI n) = _
  rw [if_neg (by omega)]

theorem many_bounds (k : Int) : 0 ≤ manyI k ∧ manyI k ≤ 16 := by
  unfold manyI; repeat' split
  all_goals omega

theorem ahead_bounds (n : Nat) (h : n ≤ 13) : 0 ≤ aheadN n ∧ aheadN n ≤ 16 * n := by
  induction n with
  | zero => exact ⟨by decide, by decide⟩
  | succ n ih =>
    have := ih (by omega)
    have hm := many_bounds n
    show 0 ≤ aheadN n + (if n = 0 then 0 else manyI n) ∧ aheadN n + (if n = 0 then 0 else manyI n) ≤ _
    split <;> omega

theorem ahead_any (k : Int) (h1 : 1 ≤ k) (h2 : k ≤ 13) (w : World) :
    Calls Tryz.prog 101 #[.int .i64 k] w fun e w' => e = .returned (.int .i64 (aheadI k)) ∧ w = w' := by
  obtain ⟨m, rfl⟩ := Int.eq_ofNat_of_zero_le (show 0 ≤ k by omega)
  go_enter Tryz.func101, Tryz.ntmps101
  go_wp2
  go_loop [3, 4] (fun s i => ∃ j : Nat, 1 ≤ j ∧ j ≤ m ∧ i = .int .i64 (j : Int) ∧ s = .int .i64 (aheadN j)) (fun _ i => m - (intOf i).toNat)
  case atStart => exact ⟨1, by omega, by omega, rfl, rfl⟩
  case round =>
    obtain ⟨j, j1, j2, rfl, rfl⟩ := hrel
    have hb := ahead_bounds j (by omega)
    have hm := many_bounds j
    by_cases hlt : j < m
    · go_wp2_with (go_at_call 102; refine (many_any _ _).mono ?_; rintro e w' ⟨rfl, rfl⟩)
      go_round
      case rel => exact ⟨j + 1, by omega, by omega, by go_num, by rw [aheadN_succ j j1]⟩
      case measure => simp [intOf]; omega
    · obtain rfl : j = m := by omega
      go_wp2
      go_ret
      exact ⟨rfl, rfl⟩

end Go.Proofs.YtfcgkjbifnhjjaaGreatDoor.St
