/- What the laws of names lean on: cloisterbook.Same of texts where they are the same, and chapter 9's runs. Where bytealg's variable holds a number. -/
import Derived.Test.YtjgdohcclkomoaaDoorNmE
namespace Go.Proofs.YtjgdohcclkomoaaDoor.St
open Go.RowKit
set_option linter.unusedVariables false

attribute [local irreducible] Int.lt Int.le
set_option maxRecDepth 100000 in
theorem sameT_yes (a b : Option Addr) (c d : Nat) (ps : List ByteArray) (w : World) (hn : ps.length ≤ 1000000) (ha : TR w a ps) (hb : TR w b ps) :
    Calls Tryd.prog 11 #[.slice a ps.length c, .slice b ps.length d] w fun e w' => e = .returned (.bool true) ∧ Below w.heap.size w w' := by
  go_enter Tryd.func11, Tryd.ntmps11
  go_wp2_with fail
  go_loopw [5] (fun i wr => ∃ j : Nat, j ≤ ps.length ∧ i = .int .i64 (j : Int) ∧ Below w.heap.size w wr) (fun i _ => ps.length - (intOf i).toNat)
  case atStart => exact ⟨0, Nat.zero_le _, rfl, Below.refl _ _⟩
  case round =>
    obtain ⟨j, hj, rfl, hbw⟩ := hrel
    by_cases hlt : j < ps.length
    · have l1 : (j : Int) < (ps.length : Int) := by omega
      have l0 : (0 : Int) ≤ (j : Int) := by omega
      obtain ⟨x, rfl, x0⟩ := ha j hlt
      obtain ⟨y, rfl, y0⟩ := hb j hlt
      have x1 := (hbw.cell (World.block_lt_of_cell? _ _ x0)).trans x0
      have y1 := (hbw.cell (World.block_lt_of_cell? _ _ y0)).trans y0
      clear ha hb x0 y0
      generalize ps[j] = p at *
      go_wp2_with fail
      go_quiet (fail)
      have b2 := below_drewN hbw nq
      clear x1 y1
      generalize wr.drewN nq = W at *
      go_wp2_with fail
      exact ⟨⟨j + 1, by omega, by go_num, b2⟩, by simp [intOf]; omega⟩
    · obtain rfl : j = ps.length := by omega
      clear ha hb
      go_wp2_with fail
      go_ret
      exact ⟨rfl, hbw⟩

theorem run1 : splOk [47, 97, 47, 47, 98, 99, 47] = true ∧ splB [47, 97, 47, 47, 98, 99, 47] = true ∧ splOk [] = false ∧ splOk [97, 98, 99, 100, 101, 102, 103, 104, 105, 106, 107, 108, 109, 110, 111] = false ∧ splB [] = false ∧ splB [97, 98, 99, 100, 101, 102, 103, 104, 105, 106, 107, 108, 109, 110, 111] = false ∧ namesL [47, 97, 47, 47, 98, 99, 47] = [[97], [98, 99]] := by decide +kernel
theorem run2 : unpL (packL [97, 98] 258) = [97, 98] ∧ unpN (packL [97, 98] 258) = 258 := by decide +kernel

set_option maxRecDepth 100000 in
theorem nameRuns_any (w : World) (hM : Mx w) :
    Calls Tryd.prog 3 #[] w fun e w' => e = .returned (.bool true) ∧ Below w.heap.size w w' := by
  obtain ⟨a1, a2, a3, a4, a5, a6, a7⟩ := run1
  have o1 := fun W h => split_any ⟨#[47, 97, 47, 47, 98, 99, 47]⟩ W h (by decide)
  have o2 := fun W h => split_any ⟨#[]⟩ W h (by decide)
  have o3 := fun W h => split_any ⟨#[97, 98, 99, 100, 101, 102, 103, 104, 105, 106, 107, 108, 109, 110, 111]⟩ W h (by decide)
  have o4 := fun W => pack_any ⟨#[97, 98]⟩ 258 W (by decide)
  have e1 : splN [47, 97, 47, 47, 98, 99, 47] = [bs [97], bs [98, 99]] := by unfold splN; rw [a1, a7]; rfl
  have o5 := fun W h => unpack_any (bs (packL [97, 98] 258)) W h (by rw [bs_size]; decide)
  simp only [list_bs, run2] at o5
  simp only [a1, a2, a3, a4, a5, a6, e1] at o1 o2 o3
  have O1 := Lib.hid o1
  have O2 := Lib.hid o2
  have O3 := Lib.hid o3
  have O4 := Lib.hid o4
  have O5 := Lib.hid o5
  clear o1 o2 o3 o4 o5 a1 a2 a3 a4 a5 a6 a7 e1
  go_enter Tryd.func3, Tryd.ntmps3
  go_wp2_with fail
  refine (O1.out w hM).mono ?_; rintro e w1 ⟨v1, rfl, L1, t1⟩
  have m1 := hM.below (Nat.le_refl _) t1
  clear O1
  go_wp2_with fail
  refine (O2.out w1 m1).mono ?_; rintro e w2 ⟨v2, rfl, L2, t2⟩
  have m2 := m1.below (Nat.le_refl _) t2
  have b2 := t1.trans (t2.mono t1.size)
  have L1 := L1.below t2
  clear O2 L2 t1 t2 m1
  go_wp2_with fail
  refine (O3.out w2 m2).mono ?_; rintro e w3 ⟨v3, rfl, L3, t3⟩
  have m3 := m2.below (Nat.le_refl _) t3
  have b3 := b2.trans (t3.mono b2.size)
  have L1 := L1.below t3
  clear O3 L3 t3 m2 b2
  go_wp2_with fail
  refine (O4.out w3).mono ?_; rintro e w4 ⟨rfl, t4⟩
  have m4 := m3.below (Nat.le_refl _) t4
  have b4 := b3.trans (t4.mono b3.size)
  have L1 := L1.below t4
  clear O4 t4 m3 b3
  go_wp2_with fail
  refine (O5.out w4 m4).mono ?_; rintro e w5 ⟨rfl, t5⟩
  have b5 := b4.trans (t5.mono b4.size)
  have L1 := L1.below t5
  clear O5 t5 m4 b4
  go_upto_region 5 with fail
  obtain ⟨a, c, hv, tr, _⟩ := L1.tr
  have hv2 : v1 = .slice a 2 c := hv
  subst hv2
  have bA : Below w5.heap.size w5 (w5.alloc (.cells #[.string ⟨#[97]⟩, .string ⟨#[98, 99]⟩] 9)) := (Below.refl _ _).alloc (Nat.le_refl _) _
  have trB : TR (w5.alloc (.cells #[.string ⟨#[97]⟩, .string ⟨#[98, 99]⟩] 9)) (some ⟨w5.heap.size, 0, none⟩) [bs [97], bs [98, 99]] := by
    intro i hi
    refine ⟨_, rfl, ?_⟩
    match i, hi with
    | 0, _ => simp [Addr.add]; rfl
    | 1, _ => simp [Addr.add]; rfl
  have os : Calls Tryd.prog 11 #[.slice a 2 c, .slice (some ⟨w5.heap.size, 0, none⟩) 2 2] _ _ := sameT_yes a (some ⟨w5.heap.size, 0, none⟩) c 2 [bs [97], bs [98, 99]] _ (by decide) (tr.below bA) trB
  have b6 := b5.trans (bA.mono b5.size)
  have OS := Lib.hid os
  have hb : bs [97, 98] = ⟨#[97, 98]⟩ := rfl
  rw [hb]
  clear tr trB os bA hb
  go_wp2_with fail
  refine OS.out.mono ?_; rintro e w6 ⟨rfl, t6⟩
  have b7 := b6.trans (t6.mono b6.size)
  go_wp2_with fail
  go_ret
  exact ⟨rfl, b7⟩
end Go.Proofs.YtjgdohcclkomoaaDoor.St
