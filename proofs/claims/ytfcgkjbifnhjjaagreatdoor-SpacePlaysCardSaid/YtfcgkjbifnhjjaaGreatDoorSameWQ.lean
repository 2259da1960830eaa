/- The contract of cloisterbook.Same of writes, where they are the same. No condition but those written in each statement. -/
import Derived.Test.YtfcgkjbifnhjjaaGreatDoorEqVQ
import Derived.Test.YtfcgkjbifnhjjaaGreatDoorRegQ
import Derived.Test.YtfcgkjbifnhjjaaGreatDoorLawKit
import Derived.Deep.Cut
namespace Go.Proofs.YtfcgkjbifnhjjaaGreatDoor.St
open Go.RowKit
set_option linter.unusedVariables false

theorem add_at_g (g k : Nat) : (⟨g, 0, none⟩ : Addr).add k = ⟨g, k, none⟩ := by
  unfold Addr.add
  split
  · rename_i h; subst h; rfl
  · simp
theorem neqW_run (k m : Int) (x : Val) (w : World) : (Op.equalIn 10000 62 (.agg (wcells k m x)) (.agg (wcells k m x))).run Tryz.prog w = .ok true w := eqW_self 9996 k m x w
theorem neqV_run (x : Val) (w : World) : (Op.equalIn 10000 60 (.agg x.cells) (.agg x.cells)).run Tryz.prog w = .ok true w := eqV_self 9997 x w
theorem run_neq_op {xs : Array Value} {ρ : Operand → Value} {t : TypeId} {x y : Operand} {dst : Option Tmp} {ty : TypeId} {pos : String} {after : Array Edge} {guard : Option (Nat × Bool)} {w : World} (hx : ρ x = .agg xs) (hy : ρ y = .agg xs) (hm : Tryz.prog.eqGuardType Tryz.prog.depth t = false) (h : (Op.equalIn 10000 t (.agg xs) (.agg xs)).run Tryz.prog w = .ok true w) :
    (execOp ρ { dst, op := .binOp .neq t x y t, type := ty, pos, after, guard }).run Tryz.prog w = .ok (.value (.bool false)) w := by
  simp [execOp, hx, hy, run_neq_struct, h, run_eqGuard_agg w .neq t x y xs xs hm]
attribute [local go_sem ↓] execOp_loadW
attribute [local irreducible] Int.lt Int.le
set_option maxRecDepth 100000 in
theorem same_wr (a b : Option Addr) (c1 c2 : Nat) (l : List Wr) (w : World) (hn : l.length ≤ 1000000) (ha : WR w a l) (hb : WR w b l) :
    Calls Tryz.prog 47 #[.slice a l.length c1, .slice b l.length c2] w fun e w' => e = .returned (.bool true) ∧ Below w.heap.size w w' := by
  go_enter Tryz.func47, Tryz.ntmps47
  go_wp2_with fail
  go_loopw [5] (fun i wr => ∃ k : Nat, k ≤ l.length ∧ i = .int .i64 (k : Int) ∧ Below w.heap.size w wr) (fun i _ => l.length - (intOf i).toNat)
  case atStart => exact ⟨0, Nat.zero_le _, rfl, Below.refl _ _⟩
  case round =>
    obtain ⟨k, hk, rfl, hbw⟩ := hrel
    by_cases hlt : k < l.length
    · have l1 : (k : Int) < (l.length : Int) := by omega
      have l0 : (0 : Int) ≤ (k : Int) := by omega
      obtain ⟨g, cur, rfl, h1, h2⟩ := (ha.below hbw) k hlt
      obtain ⟨g', cur', rfl, h1', h2'⟩ := (hb.below hbw) k hlt
      generalize l[k].1.1 = A at *
      generalize l[k].1.2 = C at *
      generalize l[k].2 = X at *
      have H := fun W => neqW_run A C X W
      have a1 := add_at_g g (k * 19)
      have a2 := add_at_g g' (k * 19)
      clear ha hb
      go_upto_region 6 with fail
      refine wp_region_held_drew (S := fun W => blk W g = some (.cells cur 62 (0, 0)) ∧ blk W g' = some (.cells cur' 62 (0, 0))) (by kernel_rfl) ⟨h1, h1'⟩ (fun hHeld => ?_)
      refine reg_take (i := 0) (v := ?_) rfl rfl (by kernel_rfl) (by kernel_rfl) (by kernel_rfl) (fun _ _ _ h => h) (by assumption) (by rfl) ?_ ?_
      rotate_left 1
      · (intro w hSw; (try dsimp only at hSw); go_simp; try with_reducible rfl)
      try simp only [List.setIfInBounds_toArray, List.set_cons_zero, List.set_cons_succ]
      refine reg_take (i := 1) (v := ?_) rfl rfl (by kernel_rfl) (by kernel_rfl) (by kernel_rfl) (fun _ _ _ h => h) (by assumption) (by rfl) ?_ ?_
      rotate_left 1
      · (intro w hSw; (try dsimp only at hSw); go_simp; try with_reducible rfl)
      try simp only [List.setIfInBounds_toArray, List.set_cons_zero, List.set_cons_succ]
      refine reg_take (i := 2) (v := ?_) rfl rfl (by kernel_rfl) (by kernel_rfl) (by kernel_rfl) (fun _ _ _ h => h) (by assumption) (by rfl) ?_ ?_
      rotate_left 1
      · (intro w hSw; (try dsimp only at hSw); go_simp; try with_reducible rfl)
      try simp only [List.setIfInBounds_toArray, List.set_cons_zero, List.set_cons_succ]
      refine reg_take (i := 4) (v := ?_) rfl rfl (by kernel_rfl) (by kernel_rfl) (by kernel_rfl) (fun _ _ _ h => h) (by assumption) (by rfl) ?_ ?_
      rotate_left 1
      · (intro w hSw; (try dsimp only at hSw); go_simp; try with_reducible rfl)
      try simp only [List.setIfInBounds_toArray, List.set_cons_zero, List.set_cons_succ]
      refine reg_take (i := 5) (v := ?_) rfl rfl (by kernel_rfl) (by kernel_rfl) (by kernel_rfl) (fun _ _ _ h => h) (by assumption) (by rfl) ?_ ?_
      rotate_left 1
      · (intro w hSw; (try dsimp only at hSw); go_simp; try with_reducible rfl)
      try simp only [List.setIfInBounds_toArray, List.set_cons_zero, List.set_cons_succ]
      refine reg_take (i := 6) (v := ?_) rfl rfl (by kernel_rfl) (by kernel_rfl) (by kernel_rfl) (fun _ _ _ h => h) (by assumption) (by rfl) ?_ ?_
      rotate_left 1
      · (intro w hSw; (try dsimp only at hSw); go_simp; try with_reducible rfl)
      try simp only [List.setIfInBounds_toArray, List.set_cons_zero, List.set_cons_succ]
      refine reg_take (i := 3) (v := .agg (wcells A C X)) rfl rfl (by kernel_rfl) (by kernel_rfl) (by kernel_rfl) (fun _ _ _ h => h) (by assumption) (by rfl) (fun w hS => run_loadW_mid w g (k * 19) cur A C X _ _ hS.1 h2) ?_
      try simp only [List.setIfInBounds_toArray, List.set_cons_zero, List.set_cons_succ]
      refine reg_take (i := 7) (v := .agg (wcells A C X)) rfl rfl (by kernel_rfl) (by kernel_rfl) (by kernel_rfl) (fun _ _ _ h => h) (by assumption) (by rfl) (fun w hS => run_loadW_mid w g' (k * 19) cur' A C X _ _ hS.2 h2') ?_
      try simp only [List.setIfInBounds_toArray, List.set_cons_zero, List.set_cons_succ]
      refine reg_take (i := 8) (v := .bool false) rfl rfl (by kernel_rfl) (by kernel_rfl) (by kernel_rfl) (fun _ _ _ h => h) (by assumption) (by rfl) (fun w hS => run_neq_op rfl rfl (by kernel_rfl) (H w)) ?_
      try simp only [List.setIfInBounds_toArray, List.set_cons_zero, List.set_cons_succ]
      refine wpAnyH_done (by kernel_rfl) ?_ _
      have hbw2 := below_drewN hbw 1
      clear hHeld h1 h1' hbw a1 a2 H
      go_wp2_with fail
      exact ⟨⟨k + 1, by omega, by go_num, hbw2⟩, by simp [intOf]; omega⟩
    · obtain rfl : k = l.length := by omega
      clear ha hb
      go_wp2_with fail
      go_ret
      exact ⟨rfl, hbw⟩
end Go.Proofs.YtfcgkjbifnhjjaaGreatDoor.St
