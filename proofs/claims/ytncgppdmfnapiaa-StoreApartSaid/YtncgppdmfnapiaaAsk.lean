/- What a walk is told of a slice of asks of a store (a kind, a key, a value), or of writes. No condition but those written in each statement. -/
import Derived.Test.YtncgppdmfnapiaaLawKit
import Derived.Test.YtncgppdmfnapiaaWri
import Derived.OpenShut
namespace Go.Proofs.Ytncgppdmfnapiaa.St
open Go.RowKit Go.ChangeShapes Go.WideShapes Go.ChangeAt Go.Deep
set_option linter.unusedVariables false
variable {H : Type} {enc : TypeId × Value → H} {w : World} {held : Bool}

theorem two_of : ∀ {l : List Value}, l.length = 2 → ∃ u v, l = [u, v]
  | [u, v], _ => ⟨u, v, rfl⟩
theorem one_at {cs : List Value} {j : Nat} {v : Value} (h : (cs.drop j).take 1 = [v]) : cs[j]? = some v := by
  have := congrArg (·[0]?) h
  simpa [List.getElem?_take, List.getElem?_drop] using this
theorem trod_val {base : Nat} {spare : Nat → Bool} {fuel : Nat} {cs : List Value} {y : DataW H × List MemPlace} (h : DataW.trod enc Try.prog w base spare held fuel 44 cs = some y) :
    ∃ x : Val, cs = x.cells.toList ∧ (∀ i, i < 16 → (Lit.int .i64 (x.n i)).wf = true) ∧ x.s.size ≤ maxLen := by
  obtain ⟨xs, n, _, _, hl, hxl, hf⟩ := DataW.trod_struct Try.underlying44 h
  have hl17 : cs.length = 17 := by rw [hl]; kernel_rfl
  have h0 : DataW.trod enc Try.prog w base spare held n 42 ((cs.drop 0).take (Try.prog.cellsOf 42)) = xs[0]? := hf 0 _ rfl
  have h1 : DataW.trod enc Try.prog w base spare held n 9 ((cs.drop 16).take (Try.prog.cellsOf 9)) = xs[1]? := hf 1 _ rfl
  simp only [List.drop_zero] at h0
  rw [show Try.prog.cellsOf 42 = 16 by kernel_rfl] at h0
  rw [show Try.prog.cellsOf 9 = 1 by kernel_rfl] at h1
  obtain ⟨y0, e0⟩ : ∃ y, xs[0]? = some y := ⟨xs[0]'(by rw [hxl]; decide), by simp⟩
  obtain ⟨y1, e1⟩ : ∃ y, xs[1]? = some y := ⟨xs[1]'(by rw [hxl]; decide), by simp⟩
  rw [e0] at h0
  rw [e1] at h1
  obtain ⟨s, q1, _, ws⟩ := DataW.trod_string Try.underlying9 h1
  have hs := one_at q1
  obtain ⟨zs, m, _, _, _, hzl, hg⟩ := DataW.trod_array Try.underlying42 h0
  have key : ∀ i : Nat, ∃ n : Int, i < 16 → cs[i]? = some (.int .i64 n) ∧ (Lit.int .i64 n).wf = true := by
    intro i
    by_cases hi : i < 16
    · have hgi := hg i hi
      rw [show Try.prog.cellsOf 3 = 1 by kernel_rfl, Nat.mul_one] at hgi
      obtain ⟨y, e⟩ : ∃ y, zs[i]? = some y := ⟨zs[i]'(by omega), by simp⟩
      rw [e] at hgi
      obtain ⟨a, q, _, wa⟩ := DataW.trod_int Try.underlying3 hgi
      have := one_at q
      rw [List.getElem?_take, if_pos hi] at this
      exact ⟨a, fun _ => ⟨this, wa⟩⟩
    · exact ⟨0, fun q => absurd q hi⟩
  obtain ⟨f, hfn⟩ := Classical.axiomOfChoice key
  refine ⟨⟨f, s⟩, ?_, fun i hi => (hfn i hi).2, ws⟩
  apply List.ext_getElem?
  intro i
  by_cases hi : i < 17
  · have : i = 0 ∨ i = 1 ∨ i = 2 ∨ i = 3 ∨ i = 4 ∨ i = 5 ∨ i = 6 ∨ i = 7 ∨ i = 8 ∨ i = 9 ∨ i = 10 ∨ i = 11 ∨ i = 12 ∨ i = 13 ∨ i = 14 ∨ i = 15 ∨ i = 16 := by omega
    rcases this with rfl | rfl | rfl | rfl | rfl | rfl | rfl | rfl | rfl | rfl | rfl | rfl | rfl | rfl | rfl | rfl | rfl
    all_goals first
      | (rw [(hfn _ (by decide)).1]; rfl)
      | (rw [hs]; rfl)
  · rw [List.getElem?_eq_none (by omega), List.getElem?_eq_none (by simp [Val.cells]; omega)]
theorem trod_key {base : Nat} {spare : Nat → Bool} {fuel : Nat} {cs : List Value} {y : DataW H × List MemPlace} (h : DataW.trod enc Try.prog w base spare held fuel 23 cs = some y) :
    ∃ k n : Int, cs = [.int .i64 k, .int .i64 n] ∧ (Lit.int .i64 k).wf = true ∧ (Lit.int .i64 n).wf = true := by
  obtain ⟨xs, n, _, _, hl, hxl, hf⟩ := DataW.trod_struct Try.underlying23 h
  have hl2 : cs.length = 2 := by rw [hl]; kernel_rfl
  have h0 : DataW.trod enc Try.prog w base spare held n 3 ((cs.drop 0).take (Try.prog.cellsOf 3)) = xs[0]? := hf 0 _ rfl
  have h1 : DataW.trod enc Try.prog w base spare held n 3 ((cs.drop 1).take (Try.prog.cellsOf 3)) = xs[1]? := hf 1 _ rfl
  rw [show Try.prog.cellsOf 3 = 1 by kernel_rfl] at h0 h1
  obtain ⟨y0, e0⟩ : ∃ y, xs[0]? = some y := ⟨xs[0]'(by rw [hxl]; decide), by simp⟩
  obtain ⟨y1, e1⟩ : ∃ y, xs[1]? = some y := ⟨xs[1]'(by rw [hxl]; decide), by simp⟩
  rw [e0] at h0
  rw [e1] at h1
  obtain ⟨a, q0, _, wa⟩ := DataW.trod_int Try.underlying3 h0
  obtain ⟨b, q1, _, wb⟩ := DataW.trod_int Try.underlying3 h1
  have r0 := one_at q0
  have r1 := one_at q1
  refine ⟨a, b, ?_, wa, wb⟩
  obtain ⟨u, v, rfl⟩ := two_of hl2
  simp at r0 r1
  rw [r0, r1]
/-- An ask's kind, key and value. -/
structure AskV where
  kind : Int
  k : Int
  n : Int
  v : Val
theorem trod_ask {base : Nat} {spare : Nat → Bool} {fuel : Nat} {cs : List Value} {y : DataW H × List MemPlace} (h : DataW.trod enc Try.prog w base spare held fuel 58 cs = some y) :
    ∃ q : AskV, cs = .int .i64 q.kind :: .int .i64 q.k :: .int .i64 q.n :: q.v.cells.toList ∧ (Lit.int .i64 q.kind).wf = true ∧ (Lit.int .i64 q.k).wf = true ∧ (Lit.int .i64 q.n).wf = true ∧ (∀ i, i < 16 → (Lit.int .i64 (q.v.n i)).wf = true) ∧ q.v.s.size ≤ maxLen := by
  obtain ⟨xs, n, _, _, hl, hxl, hf⟩ := DataW.trod_struct Try.underlying58 h
  have hl20 : cs.length = 20 := by rw [hl]; kernel_rfl
  have h0 : DataW.trod enc Try.prog w base spare held n 3 ((cs.drop 0).take (Try.prog.cellsOf 3)) = xs[0]? := hf 0 _ rfl
  have h1 : DataW.trod enc Try.prog w base spare held n 23 ((cs.drop 1).take (Try.prog.cellsOf 23)) = xs[1]? := hf 1 _ rfl
  have h2 : DataW.trod enc Try.prog w base spare held n 44 ((cs.drop 3).take (Try.prog.cellsOf 44)) = xs[2]? := hf 2 _ rfl
  rw [show Try.prog.cellsOf 3 = 1 by kernel_rfl] at h0
  rw [show Try.prog.cellsOf 23 = 2 by kernel_rfl] at h1
  rw [show Try.prog.cellsOf 44 = 17 by kernel_rfl] at h2
  obtain ⟨y0, e0⟩ : ∃ y, xs[0]? = some y := ⟨xs[0]'(by rw [hxl]; decide), by simp⟩
  obtain ⟨y1, e1⟩ : ∃ y, xs[1]? = some y := ⟨xs[1]'(by rw [hxl]; decide), by simp⟩
  obtain ⟨y2, e2⟩ : ∃ y, xs[2]? = some y := ⟨xs[2]'(by rw [hxl]; decide), by simp⟩
  rw [e0] at h0
  rw [e1] at h1
  rw [e2] at h2
  obtain ⟨a, q0, _, wa⟩ := DataW.trod_int Try.underlying3 h0
  obtain ⟨k, m, q1, wk, wm⟩ := trod_key h1
  obtain ⟨x, q2, wx, ws⟩ := trod_val h2
  refine ⟨⟨a, k, m, x⟩, ?_, wa, wk, wm, wx, ws⟩
  have e : cs = cs.take 1 ++ (cs.drop 1).take 2 ++ (cs.drop 3).take 17 := by
    rw [show (cs.drop 3).take 17 = cs.drop 3 from List.take_of_length_le (by simp; omega)]
    rw [List.append_assoc, show cs.drop 3 = (cs.drop 1).drop 2 by simp, List.take_append_drop, List.take_append_drop]
  rw [List.drop_zero] at q0
  rw [e, q0, q1, q2]; rfl
/-- A slice of asks. -/
def IsAsks (w : World) (a : Option Addr) (len cap : Nat) (z : Nat → AskV) : Prop :=
  (a = none ∧ len = 0 ∧ cap = 0) ∨
  ∃ x, a = some x ∧ len ≤ cap ∧ cap ≤ maxLen ∧ ∀ i, i < len → (∀ j v, (Value.int .i64 (z i).kind :: .int .i64 (z i).k :: .int .i64 (z i).n :: (z i).v.cells.toList)[j]? = some v → w.cell? (x.add (i * 20 + j)) = some v) ∧
    (Lit.int .i64 (z i).kind).wf = true ∧ (Lit.int .i64 (z i).k).wf = true ∧ (Lit.int .i64 (z i).n).wf = true ∧ (∀ j, j < 16 → (Lit.int .i64 ((z i).v.n j)).wf = true) ∧ (z i).v.s.size ≤ maxLen
theorem open_asks {t : TypeId} {fuel : Nat} {a : Option Addr} {len cap : Nat} {x : DataW H × List MemPlace} (ht : Try.prog.underlying t = some (.slice 58))
    (h : DataW.trod enc Try.prog w 0 (fun _ => true) held fuel t [.slice a len cap] = some x) : ∃ z, IsAsks w a len cap z := by
  rcases open_slice ht h with ⟨hcs, _⟩ | ⟨x, l, c, m, n, D, Pl, hcs, _, hl, hm, hmm, _, hi⟩
  · simp at hcs
    obtain ⟨rfl, rfl, rfl⟩ := hcs
    exact ⟨fun _ => ⟨0, 0, 0, Val.zero⟩, .inl ⟨rfl, rfl, rfl⟩⟩
  · simp at hcs
    obtain ⟨rfl, rfl, rfl⟩ := hcs
    have hm2 : m = cap := by simpa using hmm
    have key : ∀ i : Nat, ∃ q : AskV, i < len → (∀ j v, (Value.int .i64 q.kind :: .int .i64 q.k :: .int .i64 q.n :: q.v.cells.toList)[j]? = some v → w.cell? (x.add (i * 20 + j)) = some v) ∧
        (Lit.int .i64 q.kind).wf = true ∧ (Lit.int .i64 q.k).wf = true ∧ (Lit.int .i64 q.n).wf = true ∧ (∀ j, j < 16 → (Lit.int .i64 (q.v.n j)).wf = true) ∧ q.v.s.size ≤ maxLen := by
      intro i
      by_cases hij : i < len
      · obtain ⟨cs, hc, htr⟩ := hi i (by omega)
        rw [show Try.prog.cellsOf 58 = 20 by kernel_rfl] at hc
        obtain ⟨q, e, rest⟩ := trod_ask htr
        obtain ⟨_, hcl, hat⟩ := World.cells?_some hc
        refine ⟨q, fun _ => ⟨fun j v hv => ?_, rest⟩⟩
        rw [← e] at hv
        have hj : j < 20 := by
          obtain ⟨p, _⟩ := List.getElem?_eq_some_iff.1 hv
          omega
        rw [← add_add, hat j hj]; exact hv
      · exact ⟨⟨0, 0, 0, Val.zero⟩, fun q => absurd q hij⟩
    obtain ⟨z, hz⟩ := Classical.axiomOfChoice key
    exact ⟨z, .inr ⟨x, rfl, hl, hm, hz⟩⟩
end Go.Proofs.Ytncgppdmfnapiaa.St
