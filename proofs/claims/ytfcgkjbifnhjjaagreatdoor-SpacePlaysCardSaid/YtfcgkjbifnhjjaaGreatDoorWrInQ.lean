/- What a walk is told of a slice of writes (a key, a value). No condition but those written in each statement. -/
import Derived.Test.YtfcgkjbifnhjjaaGreatDoorLawKit
import Derived.Test.YtfcgkjbifnhjjaaGreatDoorWriQ
import Derived.OpenShut
namespace Go.Proofs.YtfcgkjbifnhjjaaGreatDoor.St
open Go.RowKit Go.ChangeShapes Go.WideShapes Go.ChangeAt Go.Deep
set_option linter.unusedVariables false
variable {H : Type} {enc : TypeId × Value → H} {w : World} {held : Bool}

theorem two_of : ∀ {l : List Value}, l.length = 2 → ∃ u v, l = [u, v]
  | [u, v], _ => ⟨u, v, rfl⟩
theorem one_at {cs : List Value} {j : Nat} {v : Value} (h : (cs.drop j).take 1 = [v]) : cs[j]? = some v := by
  have := congrArg (·[0]?) h
  simpa [List.getElem?_take, List.getElem?_drop] using this
theorem trod_val {base : Nat} {spare : Nat → Bool} {fuel : Nat} {cs : List Value} {y : DataW H × List MemPlace} (h : DataW.trod enc Tryz.prog w base spare held fuel 60 cs = some y) :
    ∃ x : Val, cs = x.cells.toList ∧ (∀ i, i < 16 → (Lit.int .i64 (x.n i)).wf = true) ∧ x.s.size ≤ maxLen := by
  obtain ⟨xs, n, _, _, hl, hxl, hf⟩ := DataW.trod_struct Tryz.underlying60 h
  have hl17 : cs.length = 17 := by rw [hl]; kernel_rfl
  have h0 : DataW.trod enc Tryz.prog w base spare held n 58 ((cs.drop 0).take (Tryz.prog.cellsOf 58)) = xs[0]? := hf 0 _ rfl
  have h1 : DataW.trod enc Tryz.prog w base spare held n 9 ((cs.drop 16).take (Tryz.prog.cellsOf 9)) = xs[1]? := hf 1 _ rfl
  simp only [List.drop_zero] at h0
  rw [show Tryz.prog.cellsOf 58 = 16 by kernel_rfl] at h0
  rw [show Tryz.prog.cellsOf 9 = 1 by kernel_rfl] at h1
  obtain ⟨y0, e0⟩ : ∃ y, xs[0]? = some y := ⟨xs[0]'(by rw [hxl]; decide), by simp⟩
  obtain ⟨y1, e1⟩ : ∃ y, xs[1]? = some y := ⟨xs[1]'(by rw [hxl]; decide), by simp⟩
  rw [e0] at h0
  rw [e1] at h1
  obtain ⟨s, q1, _, ws⟩ := DataW.trod_string Tryz.underlying9 h1
  have hs := one_at q1
  obtain ⟨zs, m, _, _, _, hzl, hg⟩ := DataW.trod_array Tryz.underlying58 h0
  have key : ∀ i : Nat, ∃ n : Int, i < 16 → cs[i]? = some (.int .i64 n) ∧ (Lit.int .i64 n).wf = true := by
    intro i
    by_cases hi : i < 16
    · have hgi := hg i hi
      rw [show Tryz.prog.cellsOf 3 = 1 by kernel_rfl, Nat.mul_one] at hgi
      obtain ⟨y, e⟩ : ∃ y, zs[i]? = some y := ⟨zs[i]'(by omega), by simp⟩
      rw [e] at hgi
      obtain ⟨a, q, _, wa⟩ := DataW.trod_int Tryz.underlying3 hgi
      have := one_at q
      rw [List.getElem?_take, if_pos hi] at this
      exact ⟨a, fun _ => ⟨this, wa⟩⟩
    · exact ⟨0, fun q => absurd q hi⟩
  obtain ⟨f, hfn⟩ := Classical.axiomOfChoice key
  refine ⟨⟨f, s⟩, ?_, fun i hi => (hfn i hi).2, ws⟩
  apply List.ext_getElem?
  intro i
  by_cases hi : i < 17
  · have : i = 0 ∨ i = 1 ∨ i = 2 ∨ i = 3 ∨ i = 4 ∨ i = 5 ∨ i = 6 ∨ i = 7 ∨ i = 8 ∨ i = 9 ∨ i = 10 ∨ i = 11 ∨ i = 12 ∨ i = 13 ∨ i = 14 ∨ i = 15 ∨ i = 16 := by omega
    rcases this with rfl | rfl | rfl | rfl | rfl | rfl | rfl | rfl | rfl | rfl | rfl | rfl | rfl | rfl | rfl | rfl | rfl
    all_goals first
      | (rw [(hfn _ (by decide)).1]; rfl)
      | (rw [hs]; rfl)
  · rw [List.getElem?_eq_none (by omega), List.getElem?_eq_none (by simp [Val.cells]; omega)]
theorem trod_key {base : Nat} {spare : Nat → Bool} {fuel : Nat} {cs : List Value} {y : DataW H × List MemPlace} (h : DataW.trod enc Tryz.prog w base spare held fuel 57 cs = some y) :
    ∃ k n : Int, cs = [.int .i64 k, .int .i64 n] ∧ (Lit.int .i64 k).wf = true ∧ (Lit.int .i64 n).wf = true := by
  obtain ⟨xs, n, _, _, hl, hxl, hf⟩ := DataW.trod_struct Tryz.underlying57 h
  have hl2 : cs.length = 2 := by rw [hl]; kernel_rfl
  have h0 : DataW.trod enc Tryz.prog w base spare held n 3 ((cs.drop 0).take (Tryz.prog.cellsOf 3)) = xs[0]? := hf 0 _ rfl
  have h1 : DataW.trod enc Tryz.prog w base spare held n 3 ((cs.drop 1).take (Tryz.prog.cellsOf 3)) = xs[1]? := hf 1 _ rfl
  rw [show Tryz.prog.cellsOf 3 = 1 by kernel_rfl] at h0 h1
  obtain ⟨y0, e0⟩ : ∃ y, xs[0]? = some y := ⟨xs[0]'(by rw [hxl]; decide), by simp⟩
  obtain ⟨y1, e1⟩ : ∃ y, xs[1]? = some y := ⟨xs[1]'(by rw [hxl]; decide), by simp⟩
  rw [e0] at h0
  rw [e1] at h1
  obtain ⟨a, q0, _, wa⟩ := DataW.trod_int Tryz.underlying3 h0
  obtain ⟨b, q1, _, wb⟩ := DataW.trod_int Tryz.underlying3 h1
  have r0 := one_at q0
  have r1 := one_at q1
  refine ⟨a, b, ?_, wa, wb⟩
  obtain ⟨u, v, rfl⟩ := two_of hl2
  simp at r0 r1
  rw [r0, r1]
theorem trod_write {base : Nat} {spare : Nat → Bool} {fuel : Nat} {cs : List Value} {y : DataW H × List MemPlace} (h : DataW.trod enc Tryz.prog w base spare held fuel 62 cs = some y) :
    ∃ q : Wr, cs = wcs q ∧ (Lit.int .i64 q.1.1).wf = true ∧ (Lit.int .i64 q.1.2).wf = true ∧ (∀ i, i < 16 → (Lit.int .i64 (q.2.n i)).wf = true) ∧ q.2.s.size ≤ maxLen := by
  obtain ⟨xs, n, _, _, hl, hxl, hf⟩ := DataW.trod_struct Tryz.underlying62 h
  have hl19 : cs.length = 19 := by rw [hl]; kernel_rfl
  have h1 : DataW.trod enc Tryz.prog w base spare held n 57 ((cs.drop 0).take (Tryz.prog.cellsOf 57)) = xs[0]? := hf 0 _ rfl
  have h2 : DataW.trod enc Tryz.prog w base spare held n 60 ((cs.drop 2).take (Tryz.prog.cellsOf 60)) = xs[1]? := hf 1 _ rfl
  rw [show Tryz.prog.cellsOf 57 = 2 by kernel_rfl] at h1
  rw [show Tryz.prog.cellsOf 60 = 17 by kernel_rfl] at h2
  obtain ⟨y1, e1⟩ : ∃ y, xs[0]? = some y := ⟨xs[0]'(by rw [hxl]; decide), by simp⟩
  obtain ⟨y2, e2⟩ : ∃ y, xs[1]? = some y := ⟨xs[1]'(by rw [hxl]; decide), by simp⟩
  rw [e1] at h1
  rw [e2] at h2
  obtain ⟨k, m, q1, wk, wm⟩ := trod_key h1
  obtain ⟨x, q2, wx, ws⟩ := trod_val h2
  refine ⟨((k, m), x), ?_, wk, wm, wx, ws⟩
  have e : cs = cs.take 2 ++ (cs.drop 2).take 17 := by
    rw [show (cs.drop 2).take 17 = cs.drop 2 from List.take_of_length_le (by simp; omega)]
    rw [List.take_append_drop]
  rw [List.drop_zero] at q1
  rw [e, q1, q2]; rfl
/-- A slice of writes. -/
def IsWrites (w : World) (a : Option Addr) (len cap : Nat) (z : Nat → Wr) : Prop :=
  (a = none ∧ len = 0 ∧ cap = 0) ∨
  ∃ x, a = some x ∧ len ≤ cap ∧ cap ≤ maxLen ∧ ∀ i, i < len → (∀ j v, (wcs (z i))[j]? = some v → w.cell? (x.add (i * 19 + j)) = some v) ∧
    (Lit.int .i64 (z i).1.1).wf = true ∧ (Lit.int .i64 (z i).1.2).wf = true ∧ (∀ j, j < 16 → (Lit.int .i64 ((z i).2.n j)).wf = true) ∧ (z i).2.s.size ≤ maxLen
theorem open_writes {t : TypeId} {fuel : Nat} {a : Option Addr} {len cap : Nat} {x : DataW H × List MemPlace} (ht : Tryz.prog.underlying t = some (.slice 62))
    (h : DataW.trod enc Tryz.prog w 0 (fun _ => true) held fuel t [.slice a len cap] = some x) : ∃ z, IsWrites w a len cap z := by
  rcases open_slice ht h with ⟨hcs, _⟩ | ⟨x, l, c, m, n, D, Pl, hcs, _, hl, hm, hmm, _, hi⟩
  · simp at hcs
    obtain ⟨rfl, rfl, rfl⟩ := hcs
    exact ⟨fun _ => ((0, 0), Val.zero), .inl ⟨rfl, rfl, rfl⟩⟩
  · simp at hcs
    obtain ⟨rfl, rfl, rfl⟩ := hcs
    have hm2 : m = cap := by simpa using hmm
    have key : ∀ i : Nat, ∃ q : Wr, i < len → (∀ j v, (wcs q)[j]? = some v → w.cell? (x.add (i * 19 + j)) = some v) ∧
        (Lit.int .i64 q.1.1).wf = true ∧ (Lit.int .i64 q.1.2).wf = true ∧ (∀ j, j < 16 → (Lit.int .i64 (q.2.n j)).wf = true) ∧ q.2.s.size ≤ maxLen := by
      intro i
      by_cases hij : i < len
      · obtain ⟨cs, hc, htr⟩ := hi i (by omega)
        rw [show Tryz.prog.cellsOf 62 = 19 by kernel_rfl] at hc
        obtain ⟨q, e, rest⟩ := trod_write htr
        obtain ⟨_, hcl, hat⟩ := World.cells?_some hc
        refine ⟨q, fun _ => ⟨fun j v hv => ?_, rest⟩⟩
        rw [← e] at hv
        have hj : j < 19 := by
          obtain ⟨p, _⟩ := List.getElem?_eq_some_iff.1 hv
          omega
        rw [← add_add, hat j hj]; exact hv
      · exact ⟨((0, 0), Val.zero), fun q => absurd q hij⟩
    obtain ⟨z, hz⟩ := Classical.axiomOfChoice key
    exact ⟨z, .inr ⟨x, rfl, hl, hm, hz⟩⟩
theorem add_two' (x : Addr) (i j : Nat) : (x.add i).add j = x.add (i + j) := by
  unfold Addr.add
  by_cases h : i = 0
  · subst h; simp
  · by_cases h2 : j = 0
    · subst h2; simp [h]
    · simp [h, h2]; omega
/-- The writes of a slice, one by one. -/
theorem IsWrites.at {w : World} {a : Option Addr} {len cap : Nat} {z : Nat → Wr} (h : IsWrites w a len cap z) (j : Nat) (hj : j < len) : ∃ x, a = some x ∧ len ≤ cap ∧ (∀ i v, (wcs (z j))[i]? = some v → w.cell? ((x.add (j * 19)).add i) = some v) ∧ (z j).1.1 ≤ 9223372036854775807 ∧ (z j).2.s.size ≤ maxLen := by
  rcases h with ⟨_, h, _⟩ | ⟨x, rfl, hl, _, hx⟩
  · omega
  · obtain ⟨hc, hk, _, _, hs⟩ := hx j hj
    refine ⟨x, rfl, hl, fun i v hv => by rw [add_two']; exact hc i v hv, ?_, hs⟩
    simp only [Lit.wf, Bool.and_eq_true, decide_eq_true_eq] at hk
    have h2 : IntKind.max .i64 = 9223372036854775807 := by decide
    omega
/-- A write loaded whole from somewhere. -/
theorem run_loadW_at (W : World) (a : Addr) (y : Wr) (h : ∀ j v, (wcs y)[j]? = some v → W.cell? (a.add j) = some v) :
    (loadW (.pointer (some a))).run Tryz.prog W = .ok (.value (.agg (wcells y.1.1 y.1.2 y.2))) W := by
  obtain ⟨fs, hu⟩ := write_struct
  have hl := run_loadCells_list (P := Tryz.prog) W a (wcs y) h
  rw [wcs_len] at hl
  have hi := write_size
  cases hq : Tryz.prog.info? 62 with
  | none => simp [hq] at hi
  | some i =>
    have hs : i.size = 19 := by simpa [hq] using hi
    have hagg : (isAgg 62).run Tryz.prog W = .ok true W := by
      unfold isAgg
      rw [Sem.run_bind, run_underlying hu W]
      simp
    have hw : (wcs y).toArray = wcells y.1.1 y.1.2 y.2 := by unfold wcs; simp
    have hv : (loadVar 62 a).run Tryz.prog W = .ok (.agg (wcells y.1.1 y.1.2 y.2)) W := by
      simp [loadVar, Sem.run_bind, hagg, sizeOf, typeInfo, hq, hs, hl, hw]
    unfold loadW
    simp only [Instr.loadAt, Instr.sureAddr, Sem.run_bind, Sem.run_pure, Result.andThen_ok, hv]
end Go.Proofs.YtfcgkjbifnhjjaaGreatDoor.St
