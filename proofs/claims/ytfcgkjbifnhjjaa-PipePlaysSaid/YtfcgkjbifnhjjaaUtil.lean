/- Small lemmas for the walks of this seat: quiet regions behind quiet regions, what only some blocks have turned. No condition but those written in each statement. -/
import Derived.Test.YtfcgkjbifnhjjaaRows
import Derived.WalkKit
import Derived.WalkLawsBesides
import Derived.RowKit3
import Derived.Outline
import Derived.Lib.Hide
import Derived.BigQuiet
import Derived.Deep.QuietTactic
import Derived.StillTailTactics
import Derived.LoopTactic
import Derived.Below
namespace Go.Proofs.Ytfcgkjbifnhjjaa.St
open Go.RowKit

theorem ret_int {k : IntKind} {a b : Int} (h : a = b) : Ending.returned (.int k a) = .returned (.int k b) := by rw [h]
theorem ret_bool {a b : Bool} (h : a = b) : Ending.returned (.bool a) = .returned (.bool b) := by rw [h]

theorem quiet_left {P : Program} {f : FuncId} {args : Array Value} {w : World} {n : Nat} {v : Value}
    (h : Calls P f args (w.drewN n) fun e w' => e = .returned v ∧ w.drewN n = w') : Calls P f args (w.drewN n) fun e w'' => e = .returned v ∧ ∃ m, w'' = w.drewN m :=
  h.mono fun _ _ ⟨he, hm⟩ => ⟨he, n, hm.symm⟩
theorem quiet_add {P : Program} {f : FuncId} {args : Array Value} {w : World} {a n : Nat} {v : Value}
    (h : Calls P f args (w.drewN (a + n)) fun e w' => e = .returned v ∧ w.drewN (a + n) = w') :
    Calls P f args (w.drewN (a + n)) fun e w'' => e = .returned v ∧ ∃ m, w'' = w.drewN (a + m) :=
  h.mono fun _ _ ⟨he, hm⟩ => ⟨he, n, hm.symm⟩

theorem below_drewN {B : Nat} {a w : World} (h : Below B a w) (n : Nat) : Below B a (w.drewN n) := h.trans ⟨rfl, rfl, rfl, Nat.le_refl _, fun _ _ => rfl⟩

/-- Only blocks of S, and what is new, have turned. -/
structure Turn (S : Nat → Prop) (a w : World) : Prop where
  os : w.os = a.os
  tape : w.tape = a.tape
  output : w.output = a.output
  size : a.heap.size ≤ w.heap.size
  block : ∀ b, b < a.heap.size → ¬ S b → w.heap[b]? = a.heap[b]?

theorem Turn.refl (S : Nat → Prop) (a : World) : Turn S a a := ⟨rfl, rfl, rfl, Nat.le_refl _, fun _ _ _ => rfl⟩
theorem Turn.trans {S : Nat → Prop} {a b c : World} (h : Turn S a b) (k : Turn S b c) : Turn S a c :=
  ⟨k.os.trans h.os, k.tape.trans h.tape, k.output.trans h.output, Nat.le_trans h.size k.size, fun i hi hn => (k.block i (Nat.lt_of_lt_of_le hi h.size) hn).trans (h.block i hi hn)⟩
theorem Turn.mono {S T : Nat → Prop} {a b : World} (h : Turn S a b) (q : ∀ i, i < a.heap.size → S i → T i) : Turn T a b :=
  ⟨h.os, h.tape, h.output, h.size, fun i hi hn => h.block i hi (fun s => hn (q i hi s))⟩
theorem Turn.drewN {S : Nat → Prop} {a w : World} (h : Turn S a w) (n : Nat) : Turn S a (w.drewN n) := ⟨h.os, h.tape, h.output, h.size, h.block⟩
theorem Turn.drew {S : Nat → Prop} {a w : World} (h : Turn S a w) : Turn S a w.drew := ⟨h.os, h.tape, h.output, h.size, h.block⟩
theorem Turn.alloc {S : Nat → Prop} {a w : World} (h : Turn S a w) (o : Obj) : Turn S a (w.alloc o) :=
  ⟨h.os, h.tape, h.output, Nat.le_trans h.size (by simp), fun i hi hn => (Below.heap_alloc w o i (Nat.lt_of_lt_of_le hi h.size)).trans (h.block i hi hn)⟩
theorem Turn.setCell {S : Nat → Prop} {a w : World} (h : Turn S a w) {p : Addr} (hp : S p.block ∨ a.heap.size ≤ p.block) (u : Value) : Turn S a (w.setCell p u) :=
  ⟨h.os, h.tape, h.output, by simpa [World.setCell] using h.size, fun i hi hn => (Below.heap_setCell w p u i (by
    rintro rfl
    rcases hp with hp | hp
    · exact hn hp
    · omega)).trans (h.block i hi hn)⟩
theorem Turn.of_below {a w : World} (h : Below a.heap.size a w) (S : Nat → Prop) : Turn S a w := ⟨h.os, h.tape, h.output, h.size, fun i hi _ => h.block i hi⟩
/-- What was turned lies from B on: below B nothing has turned. -/
theorem Turn.below {S : Nat → Prop} {a w : World} (h : Turn S a w) {B : Nat} (hB : B ≤ a.heap.size) (hS : ∀ i, S i → B ≤ i) : Below B a w :=
  ⟨h.os, h.tape, h.output, h.size, fun i hi => h.block i (by omega) (fun s => by have := hS i s; omega)⟩

/-! ### Which operation of a region is run, for rules that look at it -/
section
variable (P : Program) (a : Act) (w : World) (K : Act → World → Prop) (Q : Exit → Act → World → Prop) (l : List Oper)
theorem wp_at0 (o0 : Oper) (h : 0 < (List.toArray (o0 :: l)).size) : Oper.wp P ((List.toArray (o0 :: l))[0]) a w K Q = Oper.wp P o0 a w K Q := by simp
theorem wp_at1 (o0 o1 : Oper) (h : 1 < (List.toArray (o0 :: o1 :: l)).size) : Oper.wp P ((List.toArray (o0 :: o1 :: l))[1]) a w K Q = Oper.wp P o1 a w K Q := by simp
theorem wp_at2 (o0 o1 o2 : Oper) (h : 2 < (List.toArray (o0 :: o1 :: o2 :: l)).size) : Oper.wp P ((List.toArray (o0 :: o1 :: o2 :: l))[2]) a w K Q = Oper.wp P o2 a w K Q := by simp
theorem wp_at3 (o0 o1 o2 o3 : Oper) (h : 3 < (List.toArray (o0 :: o1 :: o2 :: o3 :: l)).size) : Oper.wp P ((List.toArray (o0 :: o1 :: o2 :: o3 :: l))[3]) a w K Q = Oper.wp P o3 a w K Q := by simp
theorem wp_at4 (o0 o1 o2 o3 o4 : Oper) (h : 4 < (List.toArray (o0 :: o1 :: o2 :: o3 :: o4 :: l)).size) : Oper.wp P ((List.toArray (o0 :: o1 :: o2 :: o3 :: o4 :: l))[4]) a w K Q = Oper.wp P o4 a w K Q := by simp
theorem wp_at5 (o0 o1 o2 o3 o4 o5 : Oper) (h : 5 < (List.toArray (o0 :: o1 :: o2 :: o3 :: o4 :: o5 :: l)).size) : Oper.wp P ((List.toArray (o0 :: o1 :: o2 :: o3 :: o4 :: o5 :: l))[5]) a w K Q = Oper.wp P o5 a w K Q := by simp
theorem wp_at6 (o0 o1 o2 o3 o4 o5 o6 : Oper) (h : 6 < (List.toArray (o0 :: o1 :: o2 :: o3 :: o4 :: o5 :: o6 :: l)).size) : Oper.wp P ((List.toArray (o0 :: o1 :: o2 :: o3 :: o4 :: o5 :: o6 :: l))[6]) a w K Q = Oper.wp P o6 a w K Q := by simp
theorem wp_at7 (o0 o1 o2 o3 o4 o5 o6 o7 : Oper) (h : 7 < (List.toArray (o0 :: o1 :: o2 :: o3 :: o4 :: o5 :: o6 :: o7 :: l)).size) : Oper.wp P ((List.toArray (o0 :: o1 :: o2 :: o3 :: o4 :: o5 :: o6 :: o7 :: l))[7]) a w K Q = Oper.wp P o7 a w K Q := by simp
theorem wp_at8 (o0 o1 o2 o3 o4 o5 o6 o7 o8 : Oper) (h : 8 < (List.toArray (o0 :: o1 :: o2 :: o3 :: o4 :: o5 :: o6 :: o7 :: o8 :: l)).size) : Oper.wp P ((List.toArray (o0 :: o1 :: o2 :: o3 :: o4 :: o5 :: o6 :: o7 :: o8 :: l))[8]) a w K Q = Oper.wp P o8 a w K Q := by simp
theorem wp_at9 (o0 o1 o2 o3 o4 o5 o6 o7 o8 o9 : Oper) (h : 9 < (List.toArray (o0 :: o1 :: o2 :: o3 :: o4 :: o5 :: o6 :: o7 :: o8 :: o9 :: l)).size) : Oper.wp P ((List.toArray (o0 :: o1 :: o2 :: o3 :: o4 :: o5 :: o6 :: o7 :: o8 :: o9 :: l))[9]) a w K Q = Oper.wp P o9 a w K Q := by simp
theorem wp_at10 (o0 o1 o2 o3 o4 o5 o6 o7 o8 o9 o10 : Oper) (h : 10 < (List.toArray (o0 :: o1 :: o2 :: o3 :: o4 :: o5 :: o6 :: o7 :: o8 :: o9 :: o10 :: l)).size) : Oper.wp P ((List.toArray (o0 :: o1 :: o2 :: o3 :: o4 :: o5 :: o6 :: o7 :: o8 :: o9 :: o10 :: l))[10]) a w K Q = Oper.wp P o10 a w K Q := by simp
theorem wp_at11 (o0 o1 o2 o3 o4 o5 o6 o7 o8 o9 o10 o11 : Oper) (h : 11 < (List.toArray (o0 :: o1 :: o2 :: o3 :: o4 :: o5 :: o6 :: o7 :: o8 :: o9 :: o10 :: o11 :: l)).size) : Oper.wp P ((List.toArray (o0 :: o1 :: o2 :: o3 :: o4 :: o5 :: o6 :: o7 :: o8 :: o9 :: o10 :: o11 :: l))[11]) a w K Q = Oper.wp P o11 a w K Q := by simp
theorem wp_at12 (o0 o1 o2 o3 o4 o5 o6 o7 o8 o9 o10 o11 o12 : Oper) (h : 12 < (List.toArray (o0 :: o1 :: o2 :: o3 :: o4 :: o5 :: o6 :: o7 :: o8 :: o9 :: o10 :: o11 :: o12 :: l)).size) : Oper.wp P ((List.toArray (o0 :: o1 :: o2 :: o3 :: o4 :: o5 :: o6 :: o7 :: o8 :: o9 :: o10 :: o11 :: o12 :: l))[12]) a w K Q = Oper.wp P o12 a w K Q := by simp
theorem wp_at13 (o0 o1 o2 o3 o4 o5 o6 o7 o8 o9 o10 o11 o12 o13 : Oper) (h : 13 < (List.toArray (o0 :: o1 :: o2 :: o3 :: o4 :: o5 :: o6 :: o7 :: o8 :: o9 :: o10 :: o11 :: o12 :: o13 :: l)).size) : Oper.wp P ((List.toArray (o0 :: o1 :: o2 :: o3 :: o4 :: o5 :: o6 :: o7 :: o8 :: o9 :: o10 :: o11 :: o12 :: o13 :: l))[13]) a w K Q = Oper.wp P o13 a w K Q := by simp
theorem wp_at14 (o0 o1 o2 o3 o4 o5 o6 o7 o8 o9 o10 o11 o12 o13 o14 : Oper) (h : 14 < (List.toArray (o0 :: o1 :: o2 :: o3 :: o4 :: o5 :: o6 :: o7 :: o8 :: o9 :: o10 :: o11 :: o12 :: o13 :: o14 :: l)).size) : Oper.wp P ((List.toArray (o0 :: o1 :: o2 :: o3 :: o4 :: o5 :: o6 :: o7 :: o8 :: o9 :: o10 :: o11 :: o12 :: o13 :: o14 :: l))[14]) a w K Q = Oper.wp P o14 a w K Q := by simp
theorem wp_at15 (o0 o1 o2 o3 o4 o5 o6 o7 o8 o9 o10 o11 o12 o13 o14 o15 : Oper) (h : 15 < (List.toArray (o0 :: o1 :: o2 :: o3 :: o4 :: o5 :: o6 :: o7 :: o8 :: o9 :: o10 :: o11 :: o12 :: o13 :: o14 :: o15 :: l)).size) : Oper.wp P ((List.toArray (o0 :: o1 :: o2 :: o3 :: o4 :: o5 :: o6 :: o7 :: o8 :: o9 :: o10 :: o11 :: o12 :: o13 :: o14 :: o15 :: l))[15]) a w K Q = Oper.wp P o15 a w K Q := by simp
theorem wp_at16 (o0 o1 o2 o3 o4 o5 o6 o7 o8 o9 o10 o11 o12 o13 o14 o15 o16 : Oper) (h : 16 < (List.toArray (o0 :: o1 :: o2 :: o3 :: o4 :: o5 :: o6 :: o7 :: o8 :: o9 :: o10 :: o11 :: o12 :: o13 :: o14 :: o15 :: o16 :: l)).size) : Oper.wp P ((List.toArray (o0 :: o1 :: o2 :: o3 :: o4 :: o5 :: o6 :: o7 :: o8 :: o9 :: o10 :: o11 :: o12 :: o13 :: o14 :: o15 :: o16 :: l))[16]) a w K Q = Oper.wp P o16 a w K Q := by simp
theorem wp_at17 (o0 o1 o2 o3 o4 o5 o6 o7 o8 o9 o10 o11 o12 o13 o14 o15 o16 o17 : Oper) (h : 17 < (List.toArray (o0 :: o1 :: o2 :: o3 :: o4 :: o5 :: o6 :: o7 :: o8 :: o9 :: o10 :: o11 :: o12 :: o13 :: o14 :: o15 :: o16 :: o17 :: l)).size) : Oper.wp P ((List.toArray (o0 :: o1 :: o2 :: o3 :: o4 :: o5 :: o6 :: o7 :: o8 :: o9 :: o10 :: o11 :: o12 :: o13 :: o14 :: o15 :: o16 :: o17 :: l))[17]) a w K Q = Oper.wp P o17 a w K Q := by simp
theorem wp_at18 (o0 o1 o2 o3 o4 o5 o6 o7 o8 o9 o10 o11 o12 o13 o14 o15 o16 o17 o18 : Oper) (h : 18 < (List.toArray (o0 :: o1 :: o2 :: o3 :: o4 :: o5 :: o6 :: o7 :: o8 :: o9 :: o10 :: o11 :: o12 :: o13 :: o14 :: o15 :: o16 :: o17 :: o18 :: l)).size) : Oper.wp P ((List.toArray (o0 :: o1 :: o2 :: o3 :: o4 :: o5 :: o6 :: o7 :: o8 :: o9 :: o10 :: o11 :: o12 :: o13 :: o14 :: o15 :: o16 :: o17 :: o18 :: l))[18]) a w K Q = Oper.wp P o18 a w K Q := by simp
theorem wp_at19 (o0 o1 o2 o3 o4 o5 o6 o7 o8 o9 o10 o11 o12 o13 o14 o15 o16 o17 o18 o19 : Oper) (h : 19 < (List.toArray (o0 :: o1 :: o2 :: o3 :: o4 :: o5 :: o6 :: o7 :: o8 :: o9 :: o10 :: o11 :: o12 :: o13 :: o14 :: o15 :: o16 :: o17 :: o18 :: o19 :: l)).size) : Oper.wp P ((List.toArray (o0 :: o1 :: o2 :: o3 :: o4 :: o5 :: o6 :: o7 :: o8 :: o9 :: o10 :: o11 :: o12 :: o13 :: o14 :: o15 :: o16 :: o17 :: o18 :: o19 :: l))[19]) a w K Q = Oper.wp P o19 a w K Q := by simp
end

end Go.Proofs.Ytfcgkjbifnhjjaa.St
