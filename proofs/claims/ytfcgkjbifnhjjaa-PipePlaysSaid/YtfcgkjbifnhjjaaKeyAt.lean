/- The contracts of key.All and key.At. No condition but those written in each statement. -/
import Derived.Test.YtfcgkjbifnhjjaaNew
namespace Go.Proofs.Ytfcgkjbifnhjjaa.St
open Go.RowKit
set_option linter.unusedVariables false

theorem key_struct : ∃ fs, Try.prog.underlying 51 = some (.struct fs) := ⟨_, Try.underlying51⟩
theorem k_key_size : (Try.prog.info? 51).map (·.size) = some 2 := by kernel_rfl
theorem k_results_key2 {fn : Func} {p q : Tmp} (h : fn.results = #[.cell p 51, .tmp q]) (tmps : Array Value) (w : World) (g : Nat) (t : TypeId) (cs : Array Value) (fr : Nat × Nat)
    (hp : tmps.getD p undef = .pointer (some ⟨g, 0, none⟩)) (hg : w.heap[g]? = some (.cells cs t fr)) (hc : cs.size = 2) :
    (results fn tmps).run Try.prog w = .ok (.tuple #[.agg cs, tmps.getD q undef]) w := by
  obtain ⟨fs, hu⟩ := key_struct
  have hp' : tmps[p]?.getD undef = .pointer (some ⟨g, 0, none⟩) := by simpa using hp
  simp [results, h, hp', asAddr, run_loadVar_row w g t 51 cs fr _ hg hu rfl (by rw [k_key_size, hc])]
theorem bodyPost_key2 {fn : Func} {R : Ending → World → Prop} {a : Act} {W : World} {b t : Nat} {c : Array Value} {fz : Nat × Nat} {p q : Tmp} (hr : fn.results = #[.cell p 51, .tmp q]) (hd : a.defers = [])
    (hp : a.tmps.getD p undef = .pointer (some ⟨b, 0, none⟩)) (hb : W.heap[b]? = some (.cells c t fz)) (hc : c.size = 2) (h : R (.returned (.tuple #[.agg c, a.tmps.getD q undef])) W) : bodyPost Try.prog fn R .ret a W :=
  bodyPost_ret (k_results_key2 hr a.tmps W b t c fz hp hb hc) hd h

/-- What stands at a place, from kind 13 - d on. -/
def atF : Nat → Int → Option (Int × Int)
  | 0, _ => none
  | d + 1, p => if p < manyI (12 - d : Nat) then some (((12 - d : Nat) : Int), p) else atF d (p - manyI (12 - d : Nat))
def atK (p : Int) : Option (Int × Int) := if p < 0 then none else atF 12 p
def atV (p : Int) : Value := keyV ((atK p).getD (0, 0)).1 ((atK p).getD (0, 0)).2

theorem atF_hit (j : Nat) (p : Int) (h1 : 1 ≤ j) (h2 : j ≤ 12) (h : p < manyI j) : atF (13 - j) p = some ((j : Int), p) := by
  rw [show 13 - j = (12 - j) + 1 by omega, atF, show 12 - (12 - j) = j by omega, if_pos h]
theorem atF_past (j : Nat) (p : Int) (h1 : 1 ≤ j) (h2 : j ≤ 12) (h : ¬ p < manyI j) : atF (13 - j) p = atF (13 - (j + 1)) (p - manyI j) := by
  rw [show 13 - j = (12 - j) + 1 by omega, atF, show 12 - (12 - j) = j by omega, if_neg h, show 13 - (j + 1) = 12 - j by omega]

attribute [local irreducible] Int.lt Int.le
set_option maxRecDepth 20000 in
theorem at_any (p : Int) (hp2 : p ≤ 9223372036854775807) (w : World) :
    Calls Try.prog 79 #[.int .i64 p] w fun e w' => e = .returned (.tuple #[atV p, .bool (atK p).isSome]) ∧ Below w.heap.size w w' := by
  by_cases h0 : p < 0
  · have hv : atK p = none := by unfold atK; rw [if_pos h0]
    unfold atV
    rw [hv]
    go_enter Try.func79, Try.ntmps79
    go_wp2_with fail
    exact bodyPost_key2 (b := w.heap.size) rfl rfl rfl (heap_alloc_new _ _) rfl ⟨rfl, (Below.refl _ _).alloc (Nat.le_refl _) _⟩
  · have hv : atK p = atF 12 p := by unfold atK; rw [if_neg h0]
    go_enter Try.func79, Try.ntmps79
    go_wp2_with fail
    go_loop [0, 4] (fun x i => ∃ (j : Nat) (r : Int), 1 ≤ j ∧ j ≤ 13 ∧ i = .int .i64 (j : Int) ∧ x = .int .i64 r ∧ 0 ≤ r ∧ r ≤ 9223372036854775807 ∧ atK p = atF (13 - j) r) (fun _ i => 13 - (intOf i).toNat)
    case atStart => exact ⟨1, p, by omega, by omega, rfl, rfl, by omega, hp2, hv⟩
    case round =>
      obtain ⟨j, r, j1, j2, rfl, rfl, r1, r2, hr⟩ := hrel
      have hm := many_bounds j
      by_cases hlt : j ≤ 12
      · have l1 : (j : Int) ≤ 12 := by omega
        go_wp2_with fail
        refine (many_any _ _).mono ?_; rintro e w1 ⟨rfl, rfl⟩
        by_cases hh : r < manyI j
        · have hk := hr.trans (atF_hit j r j1 hlt hh)
          have hvk : atV p = keyV j r := by unfold atV; rw [hk]; rfl
          have hsome : (atK p).isSome = true := by rw [hk]; rfl
          generalize manyI j = M at *
          clear hr hk hv
          go_wp2_with fail
          try rw [hvk, hsome]
          exact bodyPost_key2 (b := w.heap.size) rfl rfl rfl (heap_alloc_new _ _) rfl ⟨rfl, (Below.refl _ _).alloc (Nat.le_refl _) _⟩
        · have hk := hr.trans (atF_past j r j1 hlt hh)
          have Hk := Lib.hid hk
          clear hr hv hk
          go_wp2_with fail
          refine (many_any _ _).mono ?_; rintro e w1 ⟨rfl, rfl⟩
          generalize hM : manyI j = M at *
          clear hM
          go_wp2_with fail
          exact ⟨⟨j + 1, r - M, by omega, by omega, by go_num, rfl, by omega, by omega, Hk.out⟩, by simp [intOf]; omega⟩
      · obtain rfl : j = 13 := by omega
        have hk : atK p = none := hr
        have hvk : atV p = keyV 0 0 := by unfold atV; rw [hk]; rfl
        have hsome : (atK p).isSome = false := by rw [hk]; rfl
        clear hr hk hv
        go_wp2_with fail
        try rw [hvk, hsome]
        exact bodyPost_key2 (b := w.heap.size) rfl rfl rfl (heap_alloc_new _ _) rfl ⟨rfl, (Below.refl _ _).alloc (Nat.le_refl _) _⟩
end Go.Proofs.Ytfcgkjbifnhjjaa.St
