/- The contract of cloisterbook.Intact of keys, where the list is as it was. No condition but those written in each statement. -/
import Derived.Test.YtncgppdmfnapiaaKeyWi
namespace Go.Proofs.Ytncgppdmfnapiaa.St
open Go.RowKit
set_option linter.unusedVariables false

theorem same_kr {W : World} {a b : Option Addr} {n : Nat} {z : Nat → Int × Int} (ha : KR W a n z) (hb : KR W b n z) : ∀ i, i < n → ∃ x y A C, a = some x ∧ b = some y ∧ W.cell? (x.add (i * 2)) = some (.int .i64 A) ∧ W.cell? ⟨(x.add (i * 2)).block, (x.add (i * 2)).off + 1, none⟩ = some (.int .i64 C) ∧ W.cell? (y.add (i * 2)) = some (.int .i64 A) ∧ W.cell? ⟨(y.add (i * 2)).block, (y.add (i * 2)).off + 1, none⟩ = some (.int .i64 C) := fun i hi => by
  obtain ⟨x, e, c0, c1⟩ := ha i hi
  obtain ⟨y, f, d0, d1⟩ := hb i hi
  exact ⟨x, y, _, _, e, f, c0, c1, d0, d1⟩

attribute [local irreducible] Int.lt Int.le
set_option maxRecDepth 100000 in
set_option maxHeartbeats 4000000 in
theorem kintact_yes (a : Addr) (b : Option Addr) (n c2 : Nat) (z : Nat → Int × Int) (k m : Int) (w : World) (hn : n ≤ 1000000) (ha : KR w (some a) n z) (hb : KR w b n z) (hm : KR w (some a) (n + 80) (fun i => if i < n then z i else (k, m))) :
    Calls Try.prog 23 #[.slice (some a) (n + 80) (n + 80), .slice b n c2, .agg #[.int .i64 k, .int .i64 m]] w fun e w' => e = .returned (.bool true) ∧ Below w.heap.size w w' := by
  have hn0 : (0 : Int) ≤ (n : Int) := by omega
  have hn1 : (n : Int) ≤ (n : Int) + 80 := by omega
  go_enter Try.func23, Try.ntmps23
  go_upto_region 1 with fail
  have k0 : blk (w.alloc (Obj.cells #[Value.int IntKind.i64 k, Value.int IntKind.i64 m] 23)) w.heap.size = some (.cells #[.int .i64 k, .int .i64 m] 23 (0, 0)) := blk_alloc_at _ _ _ rfl
  have bel0 : Below w.heap.size w (w.alloc (Obj.cells #[Value.int IntKind.i64 k, Value.int IntKind.i64 m] 23)) := (Below.refl _ _).alloc (Nat.le_refl _) _
  have ha0 := ha.below bel0
  have hb0 := hb.below bel0
  have hm0 := hm.below bel0
  generalize w.alloc (Obj.cells #[Value.int IntKind.i64 k, Value.int IntKind.i64 m] 23) = W0 at *
  obtain ⟨G, hG⟩ : ∃ G, G = w.heap.size := ⟨_, rfl⟩
  rw [← hG] at k0
  rw [← hG]
  clear hG ha hb hm
  go_wp2_with fail
  refine (same_yes _ _ n _ _ W0 hn (same_kr ha0 hb0)).mono ?_; rintro e W1 ⟨rfl, t1⟩
  have hm1 := hm0.below t1
  have k1 := blk_kept k0 t1
  have bel1 := bel0.trans (t1.mono bel0.size)
  have g0 := cell_of_row _ _ 0 _ _ _ k1
  have g1 := cell_of_row _ _ 1 _ _ _ k1
  simp at g0 g1
  clear ha0 hb0 hm0 k0 k1 bel0 t1
  go_wp2_with fail
  go_loopw [7] (fun i wr => ∃ j : Nat, n ≤ j ∧ j ≤ n + 80 ∧ i = .int .i64 (j : Int) ∧ Below W1.heap.size W1 wr) (fun i _ => n + 80 - (intOf i).toNat)
  case atStart => exact ⟨n, Nat.le_refl _, by omega, rfl, Below.refl _ _⟩
  case round =>
    obtain ⟨j, j1, j2, rfl, hb⟩ := hrel
    by_cases hlt : j < n + 80
    · have l1 : (j : Int) < (n : Int) + 80 := by omega
      have l2 : (j : Int) < ((n + 80 : Nat) : Int) := by omega
      have l0 : (0 : Int) ≤ (j : Int) := by omega
      obtain ⟨x, e, x0, x1⟩ := hm1 j hlt
      obtain rfl : a = x := by simpa using e
      have ez : (fun i => if i < n then z i else (k, m)) j = (k, m) := by show (if j < n then z j else (k, m)) = (k, m); rw [if_neg (by omega)]
      rw [ez] at x0 x1
      have y0 := (hb.cell (cell_block_lt x0)).trans x0
      have y1 := (hb.cell (cell_block_lt x1)).trans x1
      have q0 := (hb.cell (cell_block_lt g0)).trans g0
      have q1 := (hb.cell (cell_block_lt g1)).trans g1
      clear hm1 x0 x1 g0 g1 e ez
      go_wp2_with fail
      go_quiet (fail)
      have hb2 := below_drewN hb nq
      clear y0 y1 q0 q1 hb
      generalize wr.drewN nq = W at *
      go_wp2_with fail
      exact ⟨⟨j + 1, by omega, by omega, by go_num, hb2⟩, by simp [intOf]; omega⟩
    · obtain rfl : j = n + 80 := by omega
      have bF := bel1.trans (hb.mono bel1.size)
      clear hm1 g0 g1 hlt
      go_wp2_with fail
      go_ret
      exact ⟨rfl, bF⟩
end Go.Proofs.Ytncgppdmfnapiaa.St
