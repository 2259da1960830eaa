/- The walk of cloisterlaw8.StorePlays. No condition but those written in the statement. -/
import Derived.Test.YtncgppdmfnapiaaStPB
import Derived.Deep.CutRange
import Derived.Deep.CutBlock
namespace Go.Proofs.Ytncgppdmfnapiaa.St
open Go.RowKit
set_option linter.unusedVariables false
attribute [local go_sem] blk_alloc_at blk_alloc_past blk_drew blk_drewN blk_setB_same blk_setB_other blk_setRow_other setRow_alloc_at setRow_alloc_past setRow_drewN setRow_drew setB_size setB_cell setB_frozen setB_alloc_past setB_drewN setB_drew run_loadV loadOr_cells run_storeV storeOr_cells cells_size ones_cells qcells_size
attribute [local go_sem ↓] execOp_loadV execOp_storeV execOp_loadQ execOp_storeQ execOp_loadW execOp_storeW
attribute [local irreducible] Int.lt Int.le
abbrev zQ : Array Value := #[.int .i64 0, .int .i64 0, .int .i64 0, .int .i64 0, .int .i64 0, .int .i64 0, .int .i64 0, .int .i64 0, .int .i64 0, .int .i64 0, .int .i64 0, .int .i64 0, .int .i64 0, .int .i64 0, .int .i64 0, .int .i64 0, .int .i64 0, .int .i64 0, .int .i64 0, .string ⟨#[]⟩]
abbrev zW : Array Value := #[.int .i64 0, .int .i64 0, .int .i64 0, .int .i64 0, .int .i64 0, .int .i64 0, .int .i64 0, .int .i64 0, .int .i64 0, .int .i64 0, .int .i64 0, .int .i64 0, .int .i64 0, .int .i64 0, .int .i64 0, .int .i64 0, .int .i64 0, .int .i64 0, .string ⟨#[]⟩]
def PRel (w : World) (s l d r : Nat) (vv xv : Value) (W : World) : Prop :=
  ∃ (st : VSt) (L : Lay) (R : RLay), vv = .pointer (some ⟨L.v, 0, none⟩) ∧ xv = .pointer (some ⟨R.q, 0, none⟩) ∧ L.s = s ∧ L.l = l ∧ R.d = d ∧ R.s = r ∧ Off w L R ∧ Pl w L R st st W ∧ VOk st
set_option maxRecDepth 100000 in
set_option maxHeartbeats 4000000 in
theorem storePlays_walk (a0 : Option Addr) (len0 cap0 : Nat) (z0 : Nat → AskV) (w : World) (w0 : IsAsks w a0 len0 cap0 z0) :
    Calls Try.prog 10 #[.slice a0 len0 cap0] w fun e w' => e = .returned (.bool true) ∧ Below w.heap.size w w' := by
  have hz := zero_val
  have A0 := w0.whole
  clear w0
  go_enter Try.func10, Try.ntmps10
  go_wp2_with fail
  refine (new_any _).mono ?_; rintro e w1 ⟨s, l, rfl, hS, t1, gs, gl⟩
  go_wp2_with fail
  refine (rnewstore _).mono ?_; rintro e w2 ⟨d, r, rfl, hR, t2, gd, gr⟩
  have hsl : s ≠ l := by
    obtain ⟨_, _, q1⟩ := hS.cs
    obtain ⟨_, q2, _⟩ := hS.cl
    intro q; rw [q, q2] at q1; injection q1 with q1; injection q1 with _ q1; cases q1
  have hs1 := hS.lts
  have hl1 : l < w1.heap.size := by obtain ⟨_, q2, _⟩ := hS.cl; exact lt_of_heap q2
  have hS2 := hS.keep (Turn.of_below t2 (fun _ => False)) id id
  have b2 := t1.trans (t2.mono t1.size)
  have z1 := t1.size
  have z2 := t2.size
  clear hS t1 t2
  go_wp2_with fail
  refine (look_any s l _ _ hS2).mono ?_; rintro e w3 ⟨L, rfl, rfl, rfl, hV3, t3, gv, gr3, gm3⟩
  have hd2 := lt_of_heap hR.cd
  have hr2 : r < w2.heap.size := by obtain ⟨_, _, _, q, _⟩ := hR.cm; exact lt_of_heap q
  have hR3 := hR.keep (Turn.of_below t3 (fun _ => False)) id id
  have b3 := b2.trans (t3.mono b2.size)
  have hL3 := hV3.lts
  clear hS2 hR t3 b2
  go_wp2_with fail
  refine (rnewview d r _ _ hR3).mono ?_; rintro e w4 ⟨R, rfl, rfl, rfl, hQ4, t4, gq, gr4, gm4⟩
  have hV4 := hV3.below t4
  have b4 := b3.trans (t4.mono b3.size)
  have F : Off w L R := by
    obtain ⟨_, q2, _⟩ := hV4.sa.cl
    obtain ⟨_, _, r1, _⟩ := hV4.cr
    obtain ⟨_, _, m1, _⟩ := hV4.cm
    have e1 : L.v ≠ L.l := by
      have q1 := hV4.cv
      intro q; rw [q, q2] at q1; injection q1 with q1; injection q1 with _ q1; cases q1
    have e2 : L.l ≠ L.r := cells_ne_map q2 r1
    have e3 : L.l ≠ L.m := cells_ne_map q2 m1
    refine ⟨fun i hi => ?_, fun i hi => ?_, e1, hsl, e2.symm, e3.symm⟩
    · omega
    · omega
  have HP : Pl w L R (VSt.fresh fun _ => Val.zero) (VSt.fresh fun _ => Val.zero) w4 := ⟨hV4, hQ4, b4⟩
  clear hR3 hV3 t4 b3 hV4 hQ4 b4
  go_upto_region 7 with fail
  iterate 7 (first | go_step | go_upon | go_back | go_simp)
  generalize hd0 : R.d = d at *
  generalize hr0 : R.s = r at *
  generalize hs0 : L.s = s at *
  generalize hl0 : L.l = l at *
  go_cut [2, 5, 6, 7] from 29 to 172 (fun rt vv xv _ wx => rt = .bool false ∧ PRel w s l d r vv xv wx)
  case first =>
    go_wp2_with fail
    go_loopw [2, 5, 6, 7] (fun rt vv xv i wr => rt = .bool false ∧ ∃ j : Nat, j ≤ len0 ∧ i = .int .i64 (j : Int) ∧ PRel w s l d r vv xv wr) (fun _ _ _ i _ => len0 - (intOf i).toNat)
    case atStart => exact ⟨rfl, 0, by omega, rfl, _, L, R, rfl, rfl, hs0, hl0, hd0, hr0, F, HP, VOk.fresh _⟩
    case round =>
      clear F HP
      obtain ⟨rfl, j, hj, rfl, st, L, R, rfl, rfl, hs0, hl0, hd0, hr0, F, H, OK⟩ := hrel
      have j0 : (0 : Int) ≤ (j : Int) := by omega
      by_cases hlt : j < len0
      · have l1 : (j : Int) < (len0 : Int) := by omega
        by_cases h40 : (j : Int) < 40
        · obtain ⟨x, rfl, hc, hq, hk⟩ := A0 j hlt
          have hq' : ∀ i v, (z0 j).cells.toList[i]? = some v → wr.cell? ((x.add (j * 20)).add i) = some v := fun i v hv => (H.b.cell (cell_block_lt (hq i v hv))).trans (hq i v hv)
          clear hq
          generalize z0 j = q at *
          have hlq := run_loadQ wr (x.add (j * 20)) q hq'
          have hsq : (storeQ (.pointer (some ⟨wr.heap.size, 0, none⟩)) (.agg q.cells)).run Try.prog (wr.alloc (Obj.cells zQ 58)) = .ok .skip (wr.alloc (Obj.cells q.cells 58)) := by
            rw [run_storeQ _ _ _ _ _ (blk_alloc_at wr _ _ rfl) rfl, setRow_alloc_at _ _ _ _ _ rfl]
          have hsq' : (storeQ (.pointer (some ⟨wr.heap.size, 0, none⟩)) (.agg q.cells)).run Try.prog (wr.alloc (Obj.cells #[.int .i64 0, .int .i64 0, .int .i64 0, .int .i64 0, .int .i64 0, .int .i64 0, .int .i64 0, .int .i64 0, .int .i64 0, .int .i64 0, .int .i64 0, .int .i64 0, .int .i64 0, .int .i64 0, .int .i64 0, .int .i64 0, .int .i64 0, .int .i64 0, .int .i64 0, .string ⟨#[]⟩] 58)) = .ok .skip (wr.alloc (Obj.cells q.cells 58)) := hsq
          clear hsq hq'
          go_upto_region 11 with fail
          have bA : Below wr.heap.size wr (wr.alloc (.cells q.cells 58)) := (Below.refl _ _).alloc (Nat.le_refl _) _
          have hQ : QA wr.heap.size q (wr.alloc (.cells q.cells 58)) := qa_of (heap_alloc_new _ _)
          have hG : wr.heap.size ≠ L.l ∧ wr.heap.size ≠ L.r ∧ wr.heap.size ≠ L.m ∧ wr.heap.size ≠ R.s ∧ wr.heap.size ≠ R.r ∧ wr.heap.size ≠ R.m := by
            have h1 := H.v.lts
            have h2 := H.r.lts
            omega
          have H1 := H.below bA
          clear hlq hsq' bA H
          generalize wr.alloc (.cells q.cells 58) = W1 at *
          generalize wr.heap.size = G at *
          go_upto_block 2 with fail
          go_cut [2, 5, 6, 9] from 43 to 131 (fun rt vv xv ok wx => rt = .bool false ∧ ok = .bool true ∧ PRel w s l d r vv xv wx ∧ QA G q wx)
          case first =>
            subst hs0 hl0 hd0 hr0
            have R0 : ∀ W, Pl w L R st st W → PRel w L.s L.l R.d R.s (.pointer (some ⟨L.v, 0, none⟩)) (.pointer (some ⟨R.q, 0, none⟩)) W := fun W a => ⟨st, L, R, rfl, rfl, rfl, rfl, rfl, rfl, F, a, OK⟩
            by_cases k1 : q.kind = 1
            ·
              --(k1
              go_upto_region 14 with fail
              have S0 : QA G q W1.drew := qa_below hQ (below_drewN (Below.refl _ _) 1)
              have H0 := H1.below (below_drewN (Below.refl _ W1) 1)
              refine wp_region_held_drew (S := QA G q) (by kernel_rfl) S0 (fun hHeld => ?_)
              clear S0 hQ H1
              refine reg_take (i := 0) (v := ?_) rfl rfl (by kernel_rfl) (by kernel_rfl) (by kernel_rfl) (fun _ _ _ h => h) (by assumption) (by rfl) ?_ ?_
              rotate_left 1
              · (intro w hSw; (try dsimp only at hSw); go_simp; try with_reducible rfl)
              try simp only [List.setIfInBounds_toArray, List.set_cons_zero, List.set_cons_succ]
              refine reg_take (i := 1) (v := ?_) rfl rfl (by kernel_rfl) (by kernel_rfl) (by kernel_rfl) (fun _ _ _ h => h) (by assumption) (by rfl) ?_ ?_
              rotate_left 1
              · (intro w hSw; (try dsimp only at hSw); go_simp; try with_reducible rfl)
              try simp only [List.setIfInBounds_toArray, List.set_cons_zero, List.set_cons_succ]
              refine reg_take (i := 2) (v := ?_) rfl rfl (by kernel_rfl) (by kernel_rfl) (by kernel_rfl) (fun _ _ _ h => h) (by assumption) (by rfl) ?_ ?_
              rotate_left 1
              · (intro w hSw; (try dsimp only at hSw); go_simp; try with_reducible rfl)
              try simp only [List.setIfInBounds_toArray, List.set_cons_zero, List.set_cons_succ]
              refine reg_take (i := 3) (v := ?_) rfl rfl (by kernel_rfl) (by kernel_rfl) (by kernel_rfl) (fun _ _ _ h => h) (by assumption) (by rfl) ?_ ?_
              rotate_left 1
              · (intro w hSw; (try dsimp only at hSw); go_simp; try with_reducible rfl)
              try simp only [List.setIfInBounds_toArray, List.set_cons_zero, List.set_cons_succ]
              refine reg_take (i := 4) (v := (.agg q.v.cells)) rfl rfl (by kernel_rfl) (by kernel_rfl) (by kernel_rfl) (fun _ _ _ h => h) (by assumption) (by rfl) (fun W hW => qa_load hW) ?_
              try simp only [List.setIfInBounds_toArray, List.set_cons_zero, List.set_cons_succ]
              refine reg_take (i := 6) (v := ?_) rfl rfl (by kernel_rfl) (by kernel_rfl) (by kernel_rfl) (fun _ _ _ h => h) (by assumption) (by rfl) ?_ ?_
              rotate_left 1
              · (intro w hSw; (try dsimp only at hSw); go_simp; try with_reducible rfl)
              try simp only [List.setIfInBounds_toArray, List.set_cons_zero, List.set_cons_succ]
              refine reg_take (i := 7) (v := ?_) rfl rfl (by kernel_rfl) (by kernel_rfl) (by kernel_rfl) (fun _ _ _ h => h) (by assumption) (by rfl) ?_ ?_
              rotate_left 1
              · (intro w hSw; (try dsimp only at hSw); go_simp; try with_reducible rfl)
              try simp only [List.setIfInBounds_toArray, List.set_cons_zero, List.set_cons_succ]
              refine reg_take (i := 8) (v := ?_) rfl rfl (by kernel_rfl) (by kernel_rfl) (by kernel_rfl) (fun _ _ _ h => h) (by assumption) (by rfl) ?_ ?_
              rotate_left 1
              · (intro w hSw; (try dsimp only at hSw); go_simp; try with_reducible rfl)
              try simp only [List.setIfInBounds_toArray, List.set_cons_zero, List.set_cons_succ]
              refine reg_take (i := 9) (v := ?_) rfl rfl (by kernel_rfl) (by kernel_rfl) (by kernel_rfl) (fun _ _ _ h => h) (by assumption) (by rfl) ?_ ?_
              rotate_left 1
              · (intro w hSw; (try dsimp only at hSw); go_simp; try with_reducible rfl)
              try simp only [List.setIfInBounds_toArray, List.set_cons_zero, List.set_cons_succ]
              refine reg_take (i := 10) (v := (.agg q.v.cells)) rfl rfl (by kernel_rfl) (by kernel_rfl) (by kernel_rfl) (fun _ _ _ h => h) (by assumption) (by rfl) (fun W hW => qa_load hW) ?_
              try simp only [List.setIfInBounds_toArray, List.set_cons_zero, List.set_cons_succ]
              refine reg_step (i := 5) (by kernel_rfl) rfl (by rfl) (fun KC hKC => ?_)
              go_simp
              refine (sput_any L.s L.l st.base q.k q.n q.v F.sl _ H0.v.sa).mono ?_; rintro e w2 ⟨rfl, hS2, T2⟩
              have s2 := qa_turn hHeld T2 hG.1
              have H2 := H0.store F _ hS2 T2
              clear H0 hS2 T2 hHeld
              refine hKC.out _ _ ?_ (fun hHeld => ?_)
              · exact s2
              clear hKC KC
              refine reg_step (i := 11) (by kernel_rfl) rfl (by rfl) (fun KC hKC => ?_)
              go_simp
              refine (rput_any R.d R.s st.base q.k q.n q.v hk _ H2.r.sa).mono ?_; rintro e w3 ⟨rfl, hS3, T3⟩
              have s3 := qa_turn s2 T3 hG.2.2.2.1
              have H3 := H2.rstore F _ hS3 T3
              clear H2 hS3 T3 hHeld s2
              refine hKC.out _ _ ?_ (fun hHeld => ?_)
              · exact s3
              clear hKC KC
              refine reg_take (i := 12) (v := ?_) rfl rfl (by kernel_rfl) (by kernel_rfl) (by kernel_rfl) (fun _ _ _ h => h) (by assumption) (by rfl) ?_ ?_
              rotate_left 1
              · (intro w hSw; (try dsimp only at hSw); go_simp; try with_reducible rfl)
              try simp only [List.setIfInBounds_toArray, List.set_cons_zero, List.set_cons_succ]
              refine reg_take (i := 13) (v := ?_) rfl rfl (by kernel_rfl) (by kernel_rfl) (by kernel_rfl) (fun _ _ _ h => h) (by assumption) (by rfl) ?_ ?_
              rotate_left 1
              · (intro w hSw; (try dsimp only at hSw); go_simp; try with_reducible rfl)
              try simp only [List.setIfInBounds_toArray, List.set_cons_zero, List.set_cons_succ]
              refine wpAnyH_done (by kernel_rfl) ?_ _
              clear hHeld
              go_wp2_with fail
              go_meet
              case rel => exact ⟨rfl, rfl, ⟨_, L, R, rfl, rfl, rfl, rfl, rfl, rfl, F, H3, vok_base OK _⟩, s3⟩
              --)k1
            by_cases k2 : q.kind = 2
            ·
              --(k2
              go_upto_region 16 with fail
              have S0 : QA G q W1.drew := qa_below hQ (below_drewN (Below.refl _ _) 1)
              have H0 := H1.below (below_drewN (Below.refl _ W1) 1)
              refine wp_region_held_drew (S := QA G q) (by kernel_rfl) S0 (fun hHeld => ?_)
              clear S0 hQ H1
              refine reg_take (i := 0) (v := ?_) rfl rfl (by kernel_rfl) (by kernel_rfl) (by kernel_rfl) (fun _ _ _ h => h) (by assumption) (by rfl) ?_ ?_
              rotate_left 1
              · (intro w hSw; (try dsimp only at hSw); go_simp; try with_reducible rfl)
              try simp only [List.setIfInBounds_toArray, List.set_cons_zero, List.set_cons_succ]
              refine reg_take (i := 1) (v := ?_) rfl rfl (by kernel_rfl) (by kernel_rfl) (by kernel_rfl) (fun _ _ _ h => h) (by assumption) (by rfl) ?_ ?_
              rotate_left 1
              · (intro w hSw; (try dsimp only at hSw); go_simp; try with_reducible rfl)
              try simp only [List.setIfInBounds_toArray, List.set_cons_zero, List.set_cons_succ]
              refine reg_take (i := 2) (v := ?_) rfl rfl (by kernel_rfl) (by kernel_rfl) (by kernel_rfl) (fun _ _ _ h => h) (by assumption) (by rfl) ?_ ?_
              rotate_left 1
              · (intro w hSw; (try dsimp only at hSw); go_simp; try with_reducible rfl)
              try simp only [List.setIfInBounds_toArray, List.set_cons_zero, List.set_cons_succ]
              refine reg_take (i := 4) (v := ?_) rfl rfl (by kernel_rfl) (by kernel_rfl) (by kernel_rfl) (fun _ _ _ h => h) (by assumption) (by rfl) ?_ ?_
              rotate_left 1
              · (intro w hSw; (try dsimp only at hSw); go_simp; try with_reducible rfl)
              try simp only [List.setIfInBounds_toArray, List.set_cons_zero, List.set_cons_succ]
              refine reg_take (i := 5) (v := ?_) rfl rfl (by kernel_rfl) (by kernel_rfl) (by kernel_rfl) (fun _ _ _ h => h) (by assumption) (by rfl) ?_ ?_
              rotate_left 1
              · (intro w hSw; (try dsimp only at hSw); go_simp; try with_reducible rfl)
              try simp only [List.setIfInBounds_toArray, List.set_cons_zero, List.set_cons_succ]
              refine reg_take (i := 6) (v := ?_) rfl rfl (by kernel_rfl) (by kernel_rfl) (by kernel_rfl) (fun _ _ _ h => h) (by assumption) (by rfl) ?_ ?_
              rotate_left 1
              · (intro w hSw; (try dsimp only at hSw); go_simp; try with_reducible rfl)
              try simp only [List.setIfInBounds_toArray, List.set_cons_zero, List.set_cons_succ]
              refine reg_step (i := 3) (by kernel_rfl) rfl (by rfl) (fun KC hKC => ?_)
              go_simp
              refine (vget_any L st q.k q.n _ H0.v).mono ?_; rintro e w2 ⟨rfl, hV2, T2⟩
              have s2 := qa_turn hHeld T2 hG.2.1
              have H2 := H0.left F hV2 T2 (fun i e => Or.inr (Or.inl e))
              clear H0 hV2 T2 hHeld
              refine hKC.out _ _ ?_ (fun hHeld => ?_)
              · exact s2
              clear hKC KC
              refine reg_step (i := 7) (by kernel_rfl) rfl (by rfl) (fun KC hKC => ?_)
              go_simp
              refine (rvget_any R st q.k q.n hk _ H2.r).mono ?_; rintro e w3 ⟨rfl, hV3, T3⟩
              have s3 := qa_turn s2 T3 hG.2.2.2.2.1
              have H3 := H2.right F hV3 T3 (fun i e => Or.inr (Or.inl e))
              clear H2 hV3 T3 hHeld s2
              refine hKC.out _ _ ?_ (fun hHeld => ?_)
              · exact s3
              clear hKC KC
              have hne := neqV_run (st.get q.k q.n)
              refine reg_take (i := 8) (v := .bool true) rfl rfl (by kernel_rfl) (by kernel_rfl) (by kernel_rfl) (fun _ _ _ h => h) (by assumption) (by rfl) (fun w hS => run_eql_op rfl rfl (by kernel_rfl) (hne w)) ?_
              try simp only [List.setIfInBounds_toArray, List.set_cons_zero, List.set_cons_succ]
              refine reg_take (i := 9) (v := ?_) rfl rfl (by kernel_rfl) (by kernel_rfl) (by kernel_rfl) (fun _ _ _ h => h) (by assumption) (by rfl) ?_ ?_
              rotate_left 1
              · (intro w hSw; (try dsimp only at hSw); go_simp; try with_reducible rfl)
              try simp only [List.setIfInBounds_toArray, List.set_cons_zero, List.set_cons_succ]
              refine wpAnyH_done (by kernel_rfl) ?_ _
              clear hHeld hne
              go_wp2_with fail
              go_meet
              case rel => exact ⟨rfl, rfl, ⟨_, L, R, rfl, rfl, rfl, rfl, rfl, rfl, F, H3, OK.saw _ _⟩, s3⟩
              --)k2
            by_cases k3 : q.kind = 3
            ·
              --(k3
              have c1 := hQ.2.1
              have c2 := hQ.2.2.1
              have hl3 := qa_load hQ
              go_wp2_with fail
              refine (vput_any L st q.k q.n q.v _ H1.v).mono ?_; rintro e w2 ⟨rfl, hV2, T2⟩
              have s2 := qa_turn hQ T2 hG.2.2.1
              have H2 := H1.left F hV2 T2 (fun i e => Or.inr (Or.inr e))
              clear H1 hV2 T2 hQ c1 c2 hl3
              have c1 := s2.2.1
              have c2 := s2.2.2.1
              have hl3 := qa_load s2
              go_wp2_with fail
              refine (rvput_any R st q.k q.n q.v hk _ H2.r).mono ?_; rintro e w3 ⟨⟨v3, rfl⟩, hV3, T3⟩
              have s3 := qa_turn s2 T3 hG.2.2.2.2.2
              have H3 := H2.right F hV3 T3 (fun i e => Or.inr (Or.inr e))
              clear H2 hV3 T3 s2 c1 c2 hl3
              go_wp2_with fail
              go_meet
              case rel => exact ⟨rfl, rfl, ⟨_, L, R, rfl, rfl, rfl, rfl, rfl, rfl, F, H3, OK.put _ _ _⟩, s3⟩
              --)k3
            by_cases k4 : q.kind = 4
            ·
              --(k4
              have c1 := H1.v.lts
              have c2 := H1.r.lts
              go_wp2_with fail
              refine (look_any L.s L.l st.base _ H1.v.sa).mono ?_; rintro e w2 ⟨L2, e1, e2, rfl, hV2, t2, gv, gr, gm⟩
              have s2 := qa_below hQ t2
              have H2 := H1.below t2
              have c3 := hV2.lts
              have z2 := t2.size
              have z1 := H1.b.size
              clear H1 t2 hQ
              go_wp2_with fail
              refine (rnewview R.d R.s st.base _ H2.r.sa).mono ?_; rintro e w3 ⟨R2, e3, e4, rfl, hV3, t3, hq, hr, hm⟩
              have s3 := qa_below s2 t3
              have H3 : Pl w L2 R2 (VSt.fresh st.base) (VSt.fresh st.base) w3 := ⟨hV2.below t3, hV3, H2.b.trans (t3.mono H2.b.size)⟩
              have F3 : Off w L2 R2 := F.new (W := W1) (W2 := w2) c1.2.2.1 c1.2.1 c2.2.1 c2.2.2.1 z1 e1 e2 e3 e4 gv gr gm c3.1 c3.2.2.2.1 c3.2.2.2.2 hq hr hm
              clear H2 t3 s2 hV2 hV3
              go_wp2_with fail
              go_meet
              case rel => exact ⟨rfl, rfl, ⟨_, L2, R2, rfl, rfl, e1, e2, e3, e4, F3, H3, VOk.fresh _⟩, s3⟩
              --)k4
            by_cases k5 : q.kind = 5
            ·
              --(k5
              go_wp2_with fail
              refine (vredo_any L st _ H1.v OK).mono ?_; rintro e w2 ⟨v2, rfl, hwl, t2⟩
              have s2 := qa_below hQ t2
              have H2 := H1.below t2
              have z1 := H1.b.size
              have hll := H1.v.lts
              have hrl := H1.r.lts
              obtain ⟨a2, c2, rfl, _, _⟩ := hwl.form
              have hlen := wrL_le st
              have HPA := Lib.hid (putAll_step st.base (wrL st))
              have HKY := Lib.hid (wrL_key st)
              have z2 := t2.size
              clear H1 hQ t2
              go_wp2_with fail
              have hW1 : W1.heap.size ≤ w2.heap.size := z2
              go_loopw [96] (fun i wr => ∃ m : Nat, m ≤ (wrL st).length ∧ i = .int .i64 (m : Int) ∧ Pl w L R { st with base := putAll st.base ((wrL st).take m) } st wr ∧ QA G q wr ∧ WL W1.heap.size wr (.slice a2 (wrL st).length c2) (wrL st) ∧ W1.heap.size ≤ wr.heap.size) (fun i _ => (wrL st).length - (intOf i).toNat)
              case atStart => exact ⟨0, by omega, rfl, H2, s2, hwl, hW1⟩
              case round =>
                --(k5a
                clear H2 s2 hwl hW1
                obtain ⟨m, hm, rfl, H2, s2, hwl, hW1⟩ := hrel
                have m0 : (0 : Int) ≤ (m : Int) := by omega
                by_cases hml : m < (wrL st).length
                · have l2 : (m : Int) < ((wrL st).length : Int) := by omega
                  obtain ⟨g, cur, rfl, hg, y1, y2⟩ := hwl.get m hml
                  have hst := HPA.out m hml
                  have HST := Lib.hid hst
                  clear hst
                  generalize (wrL st)[m].1.1 = A at *
                  generalize (wrL st)[m].1.2 = C at *
                  generalize (wrL st)[m].2 = X at *
                  have hlw := run_loadW_mid wr g (m * 19) cur A C X _ _ y1 y2
                  have a1 := add_at_g g (m * 19)
                  have hsw : (storeW (.pointer (some ⟨wr.heap.size, 0, none⟩)) (.agg (wcells A C X))).run Try.prog (wr.alloc (Obj.cells zW 53)) = .ok .skip (wr.alloc (Obj.cells (wcells A C X) 53)) := by
                    rw [run_storeW _ _ _ _ _ _ _ (blk_alloc_at wr _ _ rfl) rfl, setRow_alloc_at _ _ _ _ _ rfl]
                  go_upto_region 26 with fail
                  have bA : Below wr.heap.size wr (wr.alloc (.cells (wcells A C X) 53)) := (Below.refl _ _).alloc (Nat.le_refl _) _
                  have kb : blk (wr.alloc (.cells (wcells A C X) 53)) wr.heap.size = some (.cells (wcells A C X) 53 (0, 0)) := heap_alloc_new _ _
                  have H3 := H2.below bA
                  have s3 := qa_below s2 bA
                  have hwl3 := hwl.below bA
                  have hz3 : W1.heap.size ≤ (wr.alloc (.cells (wcells A C X) 53)).heap.size := by have := bA.size; omega
                  clear bA H2 s2 hwl hlw hsw a1 y1
                  generalize wr.alloc (.cells (wcells A C X) 53) = W3 at *
                  generalize wr.heap.size = K at *
                  have q0 : W3.cell? ⟨K, 0, none⟩ = some (.int .i64 A) := cell_of_row W3 K 0 _ _ _ kb
                  have q1 : W3.cell? ⟨K, 1, none⟩ = some (.int .i64 C) := cell_of_row W3 K 1 _ _ _ kb
                  have hlv := run_loadV_mid W3 K 2 _ X _ _ kb (wcells_ext A C X)
                  go_wp2_with fail
                  refine (sput_any L.s L.l _ A C X F.sl _ H3.v.sa).mono ?_; rintro e w4 ⟨rfl, hS4, T4⟩
                  have s4 := qa_turn s3 T4 hG.1
                  have H4 := H3.store F _ hS4 T4
                  have hwl4 := hwl3.turn T4 (fun i hi (e : i = L.l) => by omega)
                  have hz4 := T4.size
                  clear H3 hS4 T4 s3 hwl3 q0 q1 hlv kb
                  go_wp2_with fail
                  exact ⟨⟨m + 1, by omega, by go_num, by rw [HST.out]; exact H4, s4, hwl4, by omega⟩, by simp [intOf]; omega⟩
                · have l2 : ¬ (m : Int) < ((wrL st).length : Int) := by omega
                  obtain rfl : m = (wrL st).length := by omega
                  rw [List.take_length] at H2
                  clear hwl HPA
                  have HPA := Lib.hid (putAll_step st.base (wrL st))
                  go_wp2_with fail
                  refine (rvredo_any R st _ H2.r).mono ?_; rintro e w5 ⟨v5, rfl, hwl, t5⟩
                  have s5 := qa_below s2 t5
                  have H5 := H2.below t5
                  have hW5 := t5.size
                  have hRz := H2.r.lts
                  have hGz := lt_of_heap s2.2.2.2
                  obtain ⟨a5, c5, rfl, _, _⟩ := hwl.form
                  clear H2 s2 t5
                  obtain ⟨B5, hB5⟩ : ∃ B5, B5 = wr.heap.size := ⟨_, rfl⟩
                  rw [← hB5] at hwl hW5 hRz hGz
                  clear hB5
                  go_wp2_with fail
                  go_loopw [110] (fun i wz => ∃ m : Nat, m ≤ (wrL st).length ∧ i = .int .i64 (m : Int) ∧ Pl w L R { st with base := putAll st.base (wrL st) } { st with base := putAll st.base ((wrL st).take m) } wz ∧ QA G q wz ∧ WL B5 wz (.slice a5 (wrL st).length c5) (wrL st) ∧ B5 ≤ wz.heap.size) (fun i _ => (wrL st).length - (intOf i).toNat)
                  case atStart => exact ⟨0, by omega, rfl, H5, s5, hwl, hW5⟩
                  case round =>
                    clear H5 s5 hwl hW5
                    obtain ⟨m, hm, rfl, H2, s2, hwl, hW1⟩ := hrel
                    have m0 : (0 : Int) ≤ (m : Int) := by omega
                    by_cases hml : m < (wrL st).length
                    · have l2 : (m : Int) < ((wrL st).length : Int) := by omega
                      obtain ⟨g, cur, rfl, hg, y1, y2⟩ := hwl.get m hml
                      have hst := HPA.out m hml
                      have HST := Lib.hid hst
                      have hky := HKY.out m hml
                      clear hst
                      generalize (wrL st)[m].1.1 = A at *
                      generalize (wrL st)[m].1.2 = C at *
                      generalize (wrL st)[m].2 = X at *
                      have hlw := run_loadW_mid wr g (m * 19) cur A C X _ _ y1 y2
                      have a1 := add_at_g g (m * 19)
                      have hsw : (storeW (.pointer (some ⟨wr.heap.size, 0, none⟩)) (.agg (wcells A C X))).run Try.prog (wr.alloc (Obj.cells zW 53)) = .ok .skip (wr.alloc (Obj.cells (wcells A C X) 53)) := by
                        rw [run_storeW _ _ _ _ _ _ _ (blk_alloc_at wr _ _ rfl) rfl, setRow_alloc_at _ _ _ _ _ rfl]
                      go_upto_region 31 with fail
                      have bA : Below wr.heap.size wr (wr.alloc (.cells (wcells A C X) 53)) := (Below.refl _ _).alloc (Nat.le_refl _) _
                      have kb : blk (wr.alloc (.cells (wcells A C X) 53)) wr.heap.size = some (.cells (wcells A C X) 53 (0, 0)) := heap_alloc_new _ _
                      have H3 := H2.below bA
                      have s3 := qa_below s2 bA
                      have hwl3 := hwl.below bA
                      have hz3 : B5 ≤ (wr.alloc (.cells (wcells A C X) 53)).heap.size := by have := bA.size; omega
                      clear bA H2 s2 hwl hlw hsw a1 y1
                      generalize wr.alloc (.cells (wcells A C X) 53) = W3 at *
                      generalize wr.heap.size = K at *
                      have q0 : W3.cell? ⟨K, 0, none⟩ = some (.int .i64 A) := cell_of_row W3 K 0 _ _ _ kb
                      have q1 : W3.cell? ⟨K, 1, none⟩ = some (.int .i64 C) := cell_of_row W3 K 1 _ _ _ kb
                      have hlv := run_loadV_mid W3 K 2 _ X _ _ kb (wcells_ext A C X)
                      go_wp2_with fail
                      refine (rput_any R.d R.s _ A C X hky _ H3.r.sa).mono ?_; rintro e w4 ⟨rfl, hS4, T4⟩
                      have s4 := qa_turn s3 T4 hG.2.2.2.1
                      have H4 := H3.rstore F _ hS4 T4
                      have hwl4 := hwl3.turn T4 (fun i hi (e : i = R.s) => by omega)
                      have hz4 := T4.size
                      clear H3 hS4 T4 s3 hwl3 q0 q1 hlv kb
                      go_wp2_with fail
                      exact ⟨⟨m + 1, by omega, by go_num, by rw [HST.out]; exact H4, s4, hwl4, by omega⟩, by simp [intOf]; omega⟩
                    · have l2 : ¬ (m : Int) < ((wrL st).length : Int) := by omega
                      obtain rfl : m = (wrL st).length := by omega
                      rw [List.take_length] at H2
                      clear hwl HPA HKY
                      go_wp2_with fail
                      go_meet
                      case rel => exact ⟨rfl, rfl, ⟨_, L, R, rfl, rfl, rfl, rfl, rfl, rfl, F, H2, vok_base OK _⟩, s2⟩
                --)k5a
              --)k5
            by_cases k6 : q.kind = 6
            ·
              --(k6
              go_wp2_with fail
              refine (stwin_any L.s L.l st.base _ H1.v.sa).mono ?_; rintro e w2 ⟨s', l', rfl, hS2, hsl2, gs', gl', t2⟩
              have s2 := qa_below hQ t2
              have H2 := H1.below t2
              have c1 := H1.v.lts
              have c2 := H1.r.lts
              have z1 := H1.b.size
              have hGl := lt_of_heap hQ.2.2.2
              clear H1 t2 hQ
              go_upto_region 37 with fail
              have S0 : QA G q w2.drew := qa_below s2 (below_drewN (Below.refl _ _) 1)
              have b0 : Below w2.heap.size w2 w2.drew := below_drewN (Below.refl _ w2) 1
              have H3 := H2.below b0
              have hS3 := hS2.keep (Turn.of_below b0 (fun _ => False)) id id
              refine wp_region_held_drew (S := QA G q) (by kernel_rfl) S0 (fun hHeld => ?_)
              clear S0 s2 H2 hS2 b0
              refine reg_take (i := 0) (v := ?_) rfl rfl (by kernel_rfl) (by kernel_rfl) (by kernel_rfl) (fun _ _ _ h => h) (by assumption) (by rfl) ?_ ?_
              rotate_left 1
              · (intro w hSw; (try dsimp only at hSw); go_simp; try with_reducible rfl)
              try simp only [List.setIfInBounds_toArray, List.set_cons_zero, List.set_cons_succ]
              refine reg_take (i := 1) (v := ?_) rfl rfl (by kernel_rfl) (by kernel_rfl) (by kernel_rfl) (fun _ _ _ h => h) (by assumption) (by rfl) ?_ ?_
              rotate_left 1
              · (intro w hSw; (try dsimp only at hSw); go_simp; try with_reducible rfl)
              try simp only [List.setIfInBounds_toArray, List.set_cons_zero, List.set_cons_succ]
              refine reg_take (i := 2) (v := ?_) rfl rfl (by kernel_rfl) (by kernel_rfl) (by kernel_rfl) (fun _ _ _ h => h) (by assumption) (by rfl) ?_ ?_
              rotate_left 1
              · (intro w hSw; (try dsimp only at hSw); go_simp; try with_reducible rfl)
              try simp only [List.setIfInBounds_toArray, List.set_cons_zero, List.set_cons_succ]
              refine reg_step (i := 3) (by kernel_rfl) rfl (by rfl) (fun KC hKC => ?_)
              go_simp
              refine (num_any 99 _).mono ?_; rintro e w4 ⟨rfl, t4⟩
              have s4 := qa_below hHeld t4
              have H4 := H3.below t4
              have hS4 := hS3.keep (Turn.of_below t4 (fun _ => False)) id id
              clear hHeld H3 hS3 t4
              refine hKC.out _ _ ?_ (fun hHeld => ?_)
              · exact s4
              clear hKC KC
              refine reg_step (i := 4) (by kernel_rfl) rfl (by rfl) (fun KC hKC => ?_)
              go_simp
              refine (sput_any s' l' st.base q.k q.n (numV 99) hsl2 _ hS4).mono ?_; rintro e w5 ⟨rfl, hS5, T5⟩
              have s5 := qa_turn s4 T5 (show ¬ G = l' by omega)
              have H5 : Pl w L R st st w5 := ⟨H4.v.keep T5 (fun i (e : i = l') => by omega), H4.r.keep T5 (fun i (e : i = l') => by omega), H4.b.trans (T5.below (B := w.heap.size) H4.b.size (fun i (e : i = l') => by omega))⟩
              clear hHeld s4 H4 hS4 hS5 T5
              refine hKC.out _ _ ?_ (fun hHeld => ?_)
              · exact s5
              clear hKC KC
              refine wpAnyH_done (by kernel_rfl) ?_ _
              clear hHeld
              go_wp2_with fail
              go_meet
              case rel => exact ⟨rfl, rfl, R0 _ H5, s5⟩
              --)k6
            go_wp2_with fail
            go_meet
            case rel => exact ⟨rfl, rfl, R0 _ H1, hQ⟩
          case rest =>
            clear H1 hQ hG F hs0 hl0 hd0 hr0
            obtain ⟨rfl, rfl, ⟨st, L, R, rfl, rfl, hs0, hl0, hd0, hr0, F, H, OK⟩, hQ⟩ := hcut
            --(z
            go_upto_region 38 with fail
            have S0 : QA G q wc.drew := qa_below hQ (below_drewN (Below.refl _ _) 1)
            have H0 := H.below (below_drewN (Below.refl _ wc) 1)
            clear H hQ
            refine wp_region_held_drew (S := QA G q) (by kernel_rfl) S0 (fun hHeld => ?_)
            clear S0
            refine reg_take (i := 0) (v := ?_) rfl rfl (by kernel_rfl) (by kernel_rfl) (by kernel_rfl) (fun _ _ _ h => h) (by assumption) (by rfl) ?_ ?_
            rotate_left 1
            · (intro w hSw; (try dsimp only at hSw); go_simp; try with_reducible rfl)
            try simp only [List.setIfInBounds_toArray, List.set_cons_zero, List.set_cons_succ]
            refine reg_take (i := 1) (v := ?_) rfl rfl (by kernel_rfl) (by kernel_rfl) (by kernel_rfl) (fun _ _ _ h => h) (by assumption) (by rfl) ?_ ?_
            rotate_left 1
            · (intro w hSw; (try dsimp only at hSw); go_simp; try with_reducible rfl)
            try simp only [List.setIfInBounds_toArray, List.set_cons_zero, List.set_cons_succ]
            refine reg_take (i := 2) (v := ?_) rfl rfl (by kernel_rfl) (by kernel_rfl) (by kernel_rfl) (fun _ _ _ h => h) (by assumption) (by rfl) ?_ ?_
            rotate_left 1
            · (intro w hSw; (try dsimp only at hSw); go_simp; try with_reducible rfl)
            try simp only [List.setIfInBounds_toArray, List.set_cons_zero, List.set_cons_succ]
            refine reg_take (i := 3) (v := ?_) rfl rfl (by kernel_rfl) (by kernel_rfl) (by kernel_rfl) (fun _ _ _ h => h) (by assumption) (by rfl) ?_ ?_
            rotate_left 1
            · (intro w hSw; (try dsimp only at hSw); go_simp; try with_reducible rfl)
            try simp only [List.setIfInBounds_toArray, List.set_cons_zero, List.set_cons_succ]
            refine reg_take (i := 4) (v := ?_) rfl rfl (by kernel_rfl) (by kernel_rfl) (by kernel_rfl) (fun _ _ _ h => h) (by assumption) (by rfl) ?_ ?_
            rotate_left 1
            · (intro w hSw; (try dsimp only at hSw); go_simp; try with_reducible rfl)
            try simp only [List.setIfInBounds_toArray, List.set_cons_zero, List.set_cons_succ]
            refine reg_take (i := 5) (v := ?_) rfl rfl (by kernel_rfl) (by kernel_rfl) (by kernel_rfl) (fun _ _ _ h => h) (by assumption) (by rfl) ?_ ?_
            rotate_left 1
            · (intro w hSw; (try dsimp only at hSw); go_simp; try with_reducible rfl)
            try simp only [List.setIfInBounds_toArray, List.set_cons_zero, List.set_cons_succ]
            refine reg_take (i := 6) (v := ?_) rfl rfl (by kernel_rfl) (by kernel_rfl) (by kernel_rfl) (fun _ _ _ h => h) (by assumption) (by rfl) ?_ ?_
            rotate_left 1
            · (intro w hSw; (try dsimp only at hSw); go_simp; try with_reducible rfl)
            try simp only [List.setIfInBounds_toArray, List.set_cons_zero, List.set_cons_succ]
            refine reg_take (i := 7) (v := ?_) rfl rfl (by kernel_rfl) (by kernel_rfl) (by kernel_rfl) (fun _ _ _ h => h) (by assumption) (by rfl) ?_ ?_
            rotate_left 1
            · (intro w hSw; (try dsimp only at hSw); go_simp; try with_reducible rfl)
            try simp only [List.setIfInBounds_toArray, List.set_cons_zero, List.set_cons_succ]
            refine reg_take (i := 8) (v := ?_) rfl rfl (by kernel_rfl) (by kernel_rfl) (by kernel_rfl) (fun _ _ _ h => h) (by assumption) (by rfl) ?_ ?_
            rotate_left 1
            · (intro w hSw; (try dsimp only at hSw); go_simp; try with_reducible rfl)
            try simp only [List.setIfInBounds_toArray, List.set_cons_zero, List.set_cons_succ]
            refine reg_take (i := 9) (v := ?_) rfl rfl (by kernel_rfl) (by kernel_rfl) (by kernel_rfl) (fun _ _ _ h => h) (by assumption) (by rfl) ?_ ?_
            rotate_left 1
            · (intro w hSw; (try dsimp only at hSw); go_simp; try with_reducible rfl)
            try simp only [List.setIfInBounds_toArray, List.set_cons_zero, List.set_cons_succ]
            refine reg_take (i := 11) (v := ?_) rfl rfl (by kernel_rfl) (by kernel_rfl) (by kernel_rfl) (fun _ _ _ h => h) (by assumption) (by rfl) ?_ ?_
            rotate_left 1
            · (intro w hSw; (try dsimp only at hSw); go_simp; try with_reducible rfl)
            try simp only [List.setIfInBounds_toArray, List.set_cons_zero, List.set_cons_succ]
            refine reg_take (i := 12) (v := ?_) rfl rfl (by kernel_rfl) (by kernel_rfl) (by kernel_rfl) (fun _ _ _ h => h) (by assumption) (by rfl) ?_ ?_
            rotate_left 1
            · (intro w hSw; (try dsimp only at hSw); go_simp; try with_reducible rfl)
            try simp only [List.setIfInBounds_toArray, List.set_cons_zero, List.set_cons_succ]
            refine reg_take (i := 13) (v := ?_) rfl rfl (by kernel_rfl) (by kernel_rfl) (by kernel_rfl) (fun _ _ _ h => h) (by assumption) (by rfl) ?_ ?_
            rotate_left 1
            · (intro w hSw; (try dsimp only at hSw); go_simp; try with_reducible rfl)
            try simp only [List.setIfInBounds_toArray, List.set_cons_zero, List.set_cons_succ]
            refine reg_step (i := 10) (by kernel_rfl) rfl (by rfl) (fun KC hKC => ?_)
            go_simp
            subst hs0 hl0 hd0 hr0
            refine (sget_any L.s L.l _ q.k q.n _ H0.v.sa).mono ?_; rintro e w1 ⟨rfl, t1⟩
            have s1 := qa_below hHeld t1
            have H1 := H0.below t1
            clear H0 t1 hHeld
            refine hKC.out _ _ ?_ (fun hHeld => ?_)
            · exact s1
            clear hKC KC
            refine reg_step (i := 14) (by kernel_rfl) rfl (by rfl) (fun KC hKC => ?_)
            go_simp
            refine (rget_any R.d R.s _ q.k q.n hk _ H1.r.sa).mono ?_; rintro e w2 ⟨rfl, t2⟩
            have s2 := qa_below s1 t2
            have H2 := H1.below t2
            clear H1 t2 hHeld s1
            refine hKC.out _ _ ?_ (fun hHeld => ?_)
            · exact s2
            clear hKC KC
            have hne := neqV_run (storeLook st.base q.k q.n)
            refine reg_take (i := 15) (v := .bool false) rfl rfl (by kernel_rfl) (by kernel_rfl) (by kernel_rfl) (fun _ _ _ h => h) (by assumption) (by rfl) (fun w hS => run_neq_op rfl rfl (by kernel_rfl) (hne w)) ?_
            try simp only [List.setIfInBounds_toArray, List.set_cons_zero, List.set_cons_succ]
            refine reg_take (i := 16) (v := ?_) rfl rfl (by kernel_rfl) (by kernel_rfl) (by kernel_rfl) (fun _ _ _ h => h) (by assumption) (by rfl) ?_ ?_
            rotate_left 1
            · (intro w hSw; (try dsimp only at hSw); go_simp; try with_reducible rfl)
            try simp only [List.setIfInBounds_toArray, List.set_cons_zero, List.set_cons_succ]
            refine reg_take (i := 17) (v := ?_) rfl rfl (by kernel_rfl) (by kernel_rfl) (by kernel_rfl) (fun _ _ _ h => h) (by assumption) (by rfl) ?_ ?_
            rotate_left 1
            · (intro w hSw; (try dsimp only at hSw); go_simp; try with_reducible rfl)
            try simp only [List.setIfInBounds_toArray, List.set_cons_zero, List.set_cons_succ]
            refine reg_take (i := 18) (v := ?_) rfl rfl (by kernel_rfl) (by kernel_rfl) (by kernel_rfl) (fun _ _ _ h => h) (by assumption) (by rfl) ?_ ?_
            rotate_left 1
            · (intro w hSw; (try dsimp only at hSw); go_simp; try with_reducible rfl)
            try simp only [List.setIfInBounds_toArray, List.set_cons_zero, List.set_cons_succ]
            refine reg_take (i := 20) (v := ?_) rfl rfl (by kernel_rfl) (by kernel_rfl) (by kernel_rfl) (fun _ _ _ h => h) (by assumption) (by rfl) ?_ ?_
            rotate_left 1
            · (intro w hSw; (try dsimp only at hSw); go_simp; try with_reducible rfl)
            try simp only [List.setIfInBounds_toArray, List.set_cons_zero, List.set_cons_succ]
            refine reg_step (i := 19) (by kernel_rfl) rfl (by rfl) (fun KC hKC => ?_)
            go_simp
            refine (vreads_any L st _ H2.v OK).mono ?_; rintro e w3 ⟨v3, rfl, hkl, t3⟩
            have s3 := qa_below s2 t3
            have H3 := H2.below t3
            obtain ⟨a3, c3, rfl, hk3, _, _⟩ := hkl.kr
            clear H2 t3 hHeld s2 hkl hne
            refine hKC.out _ _ ?_ (fun hHeld => ?_)
            · exact s3
            clear hKC KC
            refine reg_step (i := 21) (by kernel_rfl) rfl (by rfl) (fun KC hKC => ?_)
            go_simp
            refine (rvreads_any R st _ H3.r OK).mono ?_; rintro e w4 ⟨v4, rfl, hkl, t4⟩
            have s4 := qa_below s3 t4
            have H4 := H3.below t4
            have hk34 := hk3.below t4
            obtain ⟨a4, c4, rfl, hk4, _, _⟩ := hkl.kr
            clear H3 t4 hHeld s3 hkl hk3
            refine hKC.out _ _ ?_ (fun hHeld => ?_)
            · exact s4
            clear hKC KC
            refine reg_step (i := 22) (by kernel_rfl) rfl (by rfl) (fun KC hKC => ?_)
            go_simp
            refine (same_yes a3 a4 (rdP st).length c3 c4 w4 (by have := rd_len st; omega) (same_kr hk34 hk4)).mono ?_; rintro e w5 ⟨rfl, t5⟩
            have s5 := qa_below s4 t5
            have H5 := H4.below t5
            clear H4 t5 hHeld s4 hk34 hk4
            refine hKC.out _ _ ?_ (fun hHeld => ?_)
            · exact s5
            clear hKC KC
            refine reg_take (i := 23) (v := ?_) rfl rfl (by kernel_rfl) (by kernel_rfl) (by kernel_rfl) (fun _ _ _ h => h) (by assumption) (by rfl) ?_ ?_
            rotate_left 1
            · (intro w hSw; (try dsimp only at hSw); go_simp; try with_reducible rfl)
            try simp only [List.setIfInBounds_toArray, List.set_cons_zero, List.set_cons_succ]
            refine reg_take (i := 24) (v := ?_) rfl rfl (by kernel_rfl) (by kernel_rfl) (by kernel_rfl) (fun _ _ _ h => h) (by assumption) (by rfl) ?_ ?_
            rotate_left 1
            · (intro w hSw; (try dsimp only at hSw); go_simp; try with_reducible rfl)
            try simp only [List.setIfInBounds_toArray, List.set_cons_zero, List.set_cons_succ]
            refine reg_take (i := 25) (v := ?_) rfl rfl (by kernel_rfl) (by kernel_rfl) (by kernel_rfl) (fun _ _ _ h => h) (by assumption) (by rfl) ?_ ?_
            rotate_left 1
            · (intro w hSw; (try dsimp only at hSw); go_simp; try with_reducible rfl)
            try simp only [List.setIfInBounds_toArray, List.set_cons_zero, List.set_cons_succ]
            refine reg_take (i := 26) (v := ?_) rfl rfl (by kernel_rfl) (by kernel_rfl) (by kernel_rfl) (fun _ _ _ h => h) (by assumption) (by rfl) ?_ ?_
            rotate_left 1
            · (intro w hSw; (try dsimp only at hSw); go_simp; try with_reducible rfl)
            try simp only [List.setIfInBounds_toArray, List.set_cons_zero, List.set_cons_succ]
            refine reg_take (i := 28) (v := ?_) rfl rfl (by kernel_rfl) (by kernel_rfl) (by kernel_rfl) (fun _ _ _ h => h) (by assumption) (by rfl) ?_ ?_
            rotate_left 1
            · (intro w hSw; (try dsimp only at hSw); go_simp; try with_reducible rfl)
            try simp only [List.setIfInBounds_toArray, List.set_cons_zero, List.set_cons_succ]
            refine reg_step (i := 27) (by kernel_rfl) rfl (by rfl) (fun KC hKC => ?_)
            go_simp
            refine (vfoot_any L st _ H5.v OK).mono ?_; rintro e w6 ⟨v6, rfl, hkl, t6⟩
            have s6 := qa_below s5 t6
            have H6 := H5.below t6
            obtain ⟨a6, c6, rfl, hk6, _, _⟩ := hkl.kr
            clear H5 t6 hHeld s5 hkl
            refine hKC.out _ _ ?_ (fun hHeld => ?_)
            · exact s6
            clear hKC KC
            refine reg_step (i := 29) (by kernel_rfl) rfl (by rfl) (fun KC hKC => ?_)
            go_simp
            refine (rvfoot_any R st _ H6.r OK).mono ?_; rintro e w7 ⟨v7, rfl, hkl, t7⟩
            have s7 := qa_below s6 t7
            have H7 := H6.below t7
            have hk67 := hk6.below t7
            obtain ⟨a7, c7, rfl, hk7, _, _⟩ := hkl.kr
            clear H6 t7 hHeld s6 hkl hk6
            refine hKC.out _ _ ?_ (fun hHeld => ?_)
            · exact s7
            clear hKC KC
            refine reg_step (i := 30) (by kernel_rfl) rfl (by rfl) (fun KC hKC => ?_)
            go_simp
            refine (same_yes a6 a7 (ftP st).length c6 c7 w7 (by have := ft_len st; omega) (same_kr hk67 hk7)).mono ?_; rintro e w8 ⟨rfl, t8⟩
            have s8 := qa_below s7 t8
            have H8 := H7.below t8
            clear H7 t8 hHeld s7 hk67 hk7
            refine hKC.out _ _ ?_ (fun hHeld => ?_)
            · exact s8
            clear hKC KC
            refine reg_take (i := 31) (v := ?_) rfl rfl (by kernel_rfl) (by kernel_rfl) (by kernel_rfl) (fun _ _ _ h => h) (by assumption) (by rfl) ?_ ?_
            rotate_left 1
            · (intro w hSw; (try dsimp only at hSw); go_simp; try with_reducible rfl)
            try simp only [List.setIfInBounds_toArray, List.set_cons_zero, List.set_cons_succ]
            refine reg_take (i := 32) (v := ?_) rfl rfl (by kernel_rfl) (by kernel_rfl) (by kernel_rfl) (fun _ _ _ h => h) (by assumption) (by rfl) ?_ ?_
            rotate_left 1
            · (intro w hSw; (try dsimp only at hSw); go_simp; try with_reducible rfl)
            try simp only [List.setIfInBounds_toArray, List.set_cons_zero, List.set_cons_succ]
            refine reg_take (i := 33) (v := ?_) rfl rfl (by kernel_rfl) (by kernel_rfl) (by kernel_rfl) (fun _ _ _ h => h) (by assumption) (by rfl) ?_ ?_
            rotate_left 1
            · (intro w hSw; (try dsimp only at hSw); go_simp; try with_reducible rfl)
            try simp only [List.setIfInBounds_toArray, List.set_cons_zero, List.set_cons_succ]
            refine reg_take (i := 34) (v := ?_) rfl rfl (by kernel_rfl) (by kernel_rfl) (by kernel_rfl) (fun _ _ _ h => h) (by assumption) (by rfl) ?_ ?_
            rotate_left 1
            · (intro w hSw; (try dsimp only at hSw); go_simp; try with_reducible rfl)
            try simp only [List.setIfInBounds_toArray, List.set_cons_zero, List.set_cons_succ]
            refine reg_take (i := 36) (v := ?_) rfl rfl (by kernel_rfl) (by kernel_rfl) (by kernel_rfl) (fun _ _ _ h => h) (by assumption) (by rfl) ?_ ?_
            rotate_left 1
            · (intro w hSw; (try dsimp only at hSw); go_simp; try with_reducible rfl)
            try simp only [List.setIfInBounds_toArray, List.set_cons_zero, List.set_cons_succ]
            refine reg_step (i := 35) (by kernel_rfl) rfl (by rfl) (fun KC hKC => ?_)
            go_simp
            refine (vredo_any L st _ H8.v OK).mono ?_; rintro e w9 ⟨v9, rfl, hwl, t9⟩
            have s9 := qa_below s8 t9
            have H9 := H8.below t9
            obtain ⟨a9, c9, rfl, _, hw9⟩ := hwl.form
            clear H8 t9 hHeld s8 hwl
            refine hKC.out _ _ ?_ (fun hHeld => ?_)
            · exact s9
            clear hKC KC
            refine reg_step (i := 37) (by kernel_rfl) rfl (by rfl) (fun KC hKC => ?_)
            go_simp
            refine (rvredo_any R st _ H9.r).mono ?_; rintro e w10 ⟨v10, rfl, hwl, t10⟩
            have s10 := qa_below s9 t10
            have H10 := H9.below t10
            have hw910 := hw9.below t10
            obtain ⟨a10, c10, rfl, _, hw10⟩ := hwl.form
            clear H9 t10 hHeld s9 hwl hw9
            refine hKC.out _ _ ?_ (fun hHeld => ?_)
            · exact s10
            clear hKC KC
            refine reg_step (i := 38) (by kernel_rfl) rfl (by rfl) (fun KC hKC => ?_)
            go_simp
            refine (same_wr a9 a10 c9 c10 (wrL st) w10 (by have := wrL_le st; omega) hw910 hw10).mono ?_; rintro e w11 ⟨rfl, t11⟩
            have s11 := qa_below s10 t11
            have H11 := H10.below t11
            clear H10 t11 hHeld s10 hw910 hw10
            refine hKC.out _ _ ?_ (fun hHeld => ?_)
            · exact s11
            clear hKC KC
            refine reg_take (i := 39) (v := ?_) rfl rfl (by kernel_rfl) (by kernel_rfl) (by kernel_rfl) (fun _ _ _ h => h) (by assumption) (by rfl) ?_ ?_
            rotate_left 1
            · (intro w hSw; (try dsimp only at hSw); go_simp; try with_reducible rfl)
            try simp only [List.setIfInBounds_toArray, List.set_cons_zero, List.set_cons_succ]
            refine reg_take (i := 40) (v := ?_) rfl rfl (by kernel_rfl) (by kernel_rfl) (by kernel_rfl) (fun _ _ _ h => h) (by assumption) (by rfl) ?_ ?_
            rotate_left 1
            · (intro w hSw; (try dsimp only at hSw); go_simp; try with_reducible rfl)
            try simp only [List.setIfInBounds_toArray, List.set_cons_zero, List.set_cons_succ]
            refine wpAnyH_done (by kernel_rfl) ?_ _
            clear hHeld s11
            go_wp2_with fail
            exact ⟨⟨rfl, j + 1, by omega, by go_num, st, L, R, rfl, rfl, rfl, rfl, rfl, rfl, F, H11, OK⟩, by simp [intOf]; omega⟩
            --)z
        · go_wp2_with fail
          go_meet
          case rel => exact ⟨rfl, st, L, R, rfl, rfl, hs0, hl0, hd0, hr0, F, H, OK⟩
      · have l1 : ¬ (j : Int) < (len0 : Int) := by omega
        go_wp2_with fail
        go_meet
        case rel => exact ⟨rfl, st, L, R, rfl, rfl, hs0, hl0, hd0, hr0, F, H, OK⟩
  case rest =>
    clear F HP hs0 hl0 hd0 hr0
    obtain ⟨rfl, ⟨st, L, R, rfl, rfl, hs0, hl0, hd0, hr0, F, H, OK⟩⟩ := hcut
    subst hs0 hl0 hd0 hr0
    --(r
    go_wp2_with fail
    refine (stwin_any L.s L.l st.base _ H.v.sa).mono ?_; rintro e w2 ⟨s', l', rfl, hS2, hsl2, gs', gl', t2⟩
    have H2 := H.below t2
    clear H t2 OK
    go_wp2_with fail
    go_loopw [16] (fun i wr => ∃ j : Nat, j ≤ 55 ∧ i = .int .i64 (j : Int) ∧ Pl w L R st st wr ∧ StoreAt wr s' l' st.base) (fun i _ => 55 - (intOf i).toNat)
    case atStart => exact ⟨0, by omega, rfl, H2, hS2⟩
    case round =>
      clear H2 hS2
      obtain ⟨j, hj, rfl, H2, hS2⟩ := hrel
      have j0 : (0 : Int) ≤ (j : Int) := by omega
      go_wp2_with fail
      refine (rall_any _).mono ?_; rintro e w3 ⟨rfl, t3⟩
      have H3 := H2.below t3
      have hS3 := hS2.keep (Turn.of_below t3 (fun _ => False)) id id
      clear H2 hS2 t3
      by_cases hlt : j < 55
      · have l1 : (j : Int) < 55 := by omega
        have hk := (place_range (keyP (j : Int)).1 (keyP (j : Int)).2 (by rw [place_keyP j hlt]; omega)).2.2.2.1
        have hat := fun W => rat_any (j : Int) (by omega) (by omega) W
        rw [show atV (j : Int) = .agg #[.int .i64 (keyP j).1, .int .i64 (keyP j).2] from rfl] at hat
        have HAT := Lib.hid hat
        clear hat
        generalize (keyP j).1 = A at *
        generalize (keyP j).2 = C at *
        generalize (atK (j : Int)).isSome = D at *
        go_wp2_with fail
        refine (HAT.out _).mono ?_; rintro e w4 ⟨rfl, t4⟩
        have H4 := H3.below t4
        have hS4 := hS3.keep (Turn.of_below t4 (fun _ => False)) id id
        clear H3 hS3 t4 HAT
        go_upto_region 45 with fail
        have b5 : Below w4.heap.size w4 (w4.alloc (.cells #[.int .i64 A, .int .i64 C] 23)) := (Below.refl _ _).alloc (Nat.le_refl _) _
        have k0 : K2 w4.heap.size A C (w4.alloc (.cells #[.int .i64 A, .int .i64 C] 23)) := ⟨cell_of_row _ _ 0 _ _ _ (heap_alloc_new _ _), cell_of_row _ _ 1 _ _ _ (heap_alloc_new _ _)⟩
        have H5 := H4.below b5
        have hS5 := hS4.keep (Turn.of_below b5 (fun _ => False)) id id
        clear H4 hS4 b5
        generalize w4.alloc (.cells #[.int .i64 A, .int .i64 C] 23) = W5 at *
        generalize w4.heap.size = K at *
        have b6 : Below W5.heap.size W5 W5.drew := below_drewN (Below.refl _ W5) 1
        have S0 : K2 K A C W5.drew := cells_two k0 b6
        have H6 := H5.below b6
        have hS6 := hS5.keep (Turn.of_below b6 (fun _ => False)) id id
        clear H5 hS5 b6 k0
        refine wp_region_held_drew (S := K2 K A C) (by kernel_rfl) S0 (fun hHeld => ?_)
        clear S0
        refine reg_take (i := 0) (v := ?_) rfl rfl (by kernel_rfl) (by kernel_rfl) (by kernel_rfl) (fun _ _ _ h => h) (by assumption) (by rfl) ?_ ?_
        rotate_left 1
        · (intro w hSw; (try dsimp only at hSw); go_simp; try with_reducible rfl)
        try simp only [List.setIfInBounds_toArray, List.set_cons_zero, List.set_cons_succ]
        refine reg_take (i := 1) (v := ?_) rfl rfl (by kernel_rfl) (by kernel_rfl) (by kernel_rfl) (fun _ _ _ h => h) (by assumption) (by rfl) ?_ ?_
        rotate_left 1
        · (intro w hSw; (try dsimp only at hSw); go_simp; try with_reducible rfl)
        try simp only [List.setIfInBounds_toArray, List.set_cons_zero, List.set_cons_succ]
        refine reg_take (i := 2) (v := ?_) rfl rfl (by kernel_rfl) (by kernel_rfl) (by kernel_rfl) (fun _ _ _ h => h) (by assumption) (by rfl) ?_ ?_
        rotate_left 1
        · (intro w hSw; (try dsimp only at hSw); go_simp; try with_reducible rfl)
        try simp only [List.setIfInBounds_toArray, List.set_cons_zero, List.set_cons_succ]
        refine reg_take (i := 3) (v := ?_) rfl rfl (by kernel_rfl) (by kernel_rfl) (by kernel_rfl) (fun _ _ _ h => h) (by assumption) (by rfl) ?_ ?_
        rotate_left 1
        · (intro w hSw; (try dsimp only at hSw); go_simp; try with_reducible rfl)
        try simp only [List.setIfInBounds_toArray, List.set_cons_zero, List.set_cons_succ]
        refine reg_take (i := 4) (v := ?_) rfl rfl (by kernel_rfl) (by kernel_rfl) (by kernel_rfl) (fun _ _ _ h => h) (by assumption) (by rfl) ?_ ?_
        rotate_left 1
        · (intro w hSw; (try dsimp only at hSw); go_simp; try with_reducible rfl)
        try simp only [List.setIfInBounds_toArray, List.set_cons_zero, List.set_cons_succ]
        refine reg_take (i := 6) (v := ?_) rfl rfl (by kernel_rfl) (by kernel_rfl) (by kernel_rfl) (fun _ _ _ h => h) (by assumption) (by rfl) ?_ ?_
        rotate_left 1
        · (intro w hSw; (try dsimp only at hSw); go_simp; try with_reducible rfl)
        try simp only [List.setIfInBounds_toArray, List.set_cons_zero, List.set_cons_succ]
        refine reg_take (i := 7) (v := ?_) rfl rfl (by kernel_rfl) (by kernel_rfl) (by kernel_rfl) (fun _ _ _ h => h) (by assumption) (by rfl) ?_ ?_
        rotate_left 1
        · (intro w hSw; (try dsimp only at hSw); go_simp; try with_reducible rfl)
        try simp only [List.setIfInBounds_toArray, List.set_cons_zero, List.set_cons_succ]
        refine reg_step (i := 5) (by kernel_rfl) rfl (by rfl) (fun KC hKC => ?_)
        go_simp
        refine (sget_any L.s L.l _ A C _ H6.v.sa).mono ?_; rintro e w7 ⟨rfl, t7⟩
        have s7 := cells_two hHeld t7
        have H7 := H6.below t7
        have hS7 := hS6.keep (Turn.of_below t7 (fun _ => False)) id id
        clear H6 hS6 t7 hHeld
        refine hKC.out _ _ ?_ (fun hHeld => ?_)
        · exact s7
        clear hKC KC
        refine reg_step (i := 8) (by kernel_rfl) rfl (by rfl) (fun KC hKC => ?_)
        go_simp
        refine (rget_any R.d R.s _ A C (by omega) _ H7.r.sa).mono ?_; rintro e w8 ⟨rfl, t8⟩
        have s8 := cells_two s7 t8
        have H8 := H7.below t8
        have hS8 := hS7.keep (Turn.of_below t8 (fun _ => False)) id id
        clear H7 hS7 t8 hHeld s7
        refine hKC.out _ _ ?_ (fun hHeld => ?_)
        · exact s8
        clear hKC KC
        have hne := neqV_run (storeLook st.base A C)
        refine reg_take (i := 9) (v := .bool false) rfl rfl (by kernel_rfl) (by kernel_rfl) (by kernel_rfl) (fun _ _ _ h => h) (by assumption) (by rfl) (fun w hS => run_neq_op rfl rfl (by kernel_rfl) (hne w)) ?_
        try simp only [List.setIfInBounds_toArray, List.set_cons_zero, List.set_cons_succ]
        refine reg_take (i := 10) (v := ?_) rfl rfl (by kernel_rfl) (by kernel_rfl) (by kernel_rfl) (fun _ _ _ h => h) (by assumption) (by rfl) ?_ ?_
        rotate_left 1
        · (intro w hSw; (try dsimp only at hSw); go_simp; try with_reducible rfl)
        try simp only [List.setIfInBounds_toArray, List.set_cons_zero, List.set_cons_succ]
        refine reg_take (i := 11) (v := ?_) rfl rfl (by kernel_rfl) (by kernel_rfl) (by kernel_rfl) (fun _ _ _ h => h) (by assumption) (by rfl) ?_ ?_
        rotate_left 1
        · (intro w hSw; (try dsimp only at hSw); go_simp; try with_reducible rfl)
        try simp only [List.setIfInBounds_toArray, List.set_cons_zero, List.set_cons_succ]
        refine reg_take (i := 12) (v := ?_) rfl rfl (by kernel_rfl) (by kernel_rfl) (by kernel_rfl) (fun _ _ _ h => h) (by assumption) (by rfl) ?_ ?_
        rotate_left 1
        · (intro w hSw; (try dsimp only at hSw); go_simp; try with_reducible rfl)
        try simp only [List.setIfInBounds_toArray, List.set_cons_zero, List.set_cons_succ]
        refine reg_take (i := 13) (v := ?_) rfl rfl (by kernel_rfl) (by kernel_rfl) (by kernel_rfl) (fun _ _ _ h => h) (by assumption) (by rfl) ?_ ?_
        rotate_left 1
        · (intro w hSw; (try dsimp only at hSw); go_simp; try with_reducible rfl)
        try simp only [List.setIfInBounds_toArray, List.set_cons_zero, List.set_cons_succ]
        refine reg_take (i := 15) (v := ?_) rfl rfl (by kernel_rfl) (by kernel_rfl) (by kernel_rfl) (fun _ _ _ h => h) (by assumption) (by rfl) ?_ ?_
        rotate_left 1
        · (intro w hSw; (try dsimp only at hSw); go_simp; try with_reducible rfl)
        try simp only [List.setIfInBounds_toArray, List.set_cons_zero, List.set_cons_succ]
        refine reg_take (i := 16) (v := ?_) rfl rfl (by kernel_rfl) (by kernel_rfl) (by kernel_rfl) (fun _ _ _ h => h) (by assumption) (by rfl) ?_ ?_
        rotate_left 1
        · (intro w hSw; (try dsimp only at hSw); go_simp; try with_reducible rfl)
        try simp only [List.setIfInBounds_toArray, List.set_cons_zero, List.set_cons_succ]
        refine reg_step (i := 14) (by kernel_rfl) rfl (by rfl) (fun KC hKC => ?_)
        go_simp
        refine (sget_any s' l' _ A C _ hS8).mono ?_; rintro e w9 ⟨rfl, t9⟩
        have s9 := cells_two s8 t9
        have H9 := H8.below t9
        have hS9 := hS8.keep (Turn.of_below t9 (fun _ => False)) id id
        clear H8 hS8 t9 hHeld s8
        refine hKC.out _ _ ?_ (fun hHeld => ?_)
        · exact s9
        clear hKC KC
        refine reg_step (i := 17) (by kernel_rfl) rfl (by rfl) (fun KC hKC => ?_)
        go_simp
        refine (rget_any R.d R.s _ A C (by omega) _ H9.r.sa).mono ?_; rintro e w10 ⟨rfl, t10⟩
        have s10 := cells_two s9 t10
        have H10 := H9.below t10
        have hS10 := hS9.keep (Turn.of_below t10 (fun _ => False)) id id
        clear H9 hS9 t10 hHeld s9
        refine hKC.out _ _ ?_ (fun hHeld => ?_)
        · exact s10
        clear hKC KC
        refine reg_take (i := 18) (v := .bool false) rfl rfl (by kernel_rfl) (by kernel_rfl) (by kernel_rfl) (fun _ _ _ h => h) (by assumption) (by rfl) (fun w hS => run_neq_op rfl rfl (by kernel_rfl) (hne w)) ?_
        try simp only [List.setIfInBounds_toArray, List.set_cons_zero, List.set_cons_succ]
        refine reg_take (i := 19) (v := ?_) rfl rfl (by kernel_rfl) (by kernel_rfl) (by kernel_rfl) (fun _ _ _ h => h) (by assumption) (by rfl) ?_ ?_
        rotate_left 1
        · (intro w hSw; (try dsimp only at hSw); go_simp; try with_reducible rfl)
        try simp only [List.setIfInBounds_toArray, List.set_cons_zero, List.set_cons_succ]
        refine wpAnyH_done (by kernel_rfl) ?_ _
        clear hHeld s10 hne
        go_wp2_with fail
        exact ⟨⟨j + 1, by omega, by go_num, H10, hS10⟩, by simp [intOf]; omega⟩
      · have l1 : ¬ (j : Int) < 55 := by omega
        obtain rfl : j = 55 := by omega
        have hb3 := H3.b
        clear H3 hS3
        go_wp2_with fail
        refine (sruns_any _).mono ?_; rintro e w15 ⟨rfl, t15⟩
        go_wp2_with fail
        go_ret
        exact ⟨rfl, hb3.trans (t15.mono hb3.size)⟩
    --)r
end Go.Proofs.Ytncgppdmfnapiaa.St
