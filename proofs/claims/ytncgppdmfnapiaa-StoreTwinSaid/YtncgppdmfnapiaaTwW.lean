/- The walk of cloisterlaw8.StoreTwin. No condition but those written in the statement. -/
import Derived.Test.YtncgppdmfnapiaaTwB
import Derived.Deep.CutRange
namespace Go.Proofs.Ytncgppdmfnapiaa.St
open Go.RowKit
set_option linter.unusedVariables false
attribute [local go_sem] blk_alloc_at blk_alloc_past blk_drew blk_drewN blk_setB_same blk_setB_other blk_setRow_other setRow_alloc_at setRow_alloc_past setRow_drewN setRow_drew setB_size setB_cell setB_frozen setB_alloc_past setB_drewN setB_drew run_loadV loadOr_cells run_storeV storeOr_cells cells_size ones_cells
attribute [local go_sem ↓] execOp_loadV execOp_storeV
attribute [local irreducible] Int.lt Int.le
/-- What loop 1's region holds. -/
abbrev Tw7 (w0 : World) (s l : Nat) (a : Addr) (q : AskV) (W : World) : Prop := AskAt W a q ∧ (∃ base, StoreAt W s l base) ∧ Below w0.heap.size w0 W
theorem tw7_below {w0 : World} {s l : Nat} {a : Addr} {q : AskV} {W W' : World} (h : Tw7 w0 s l a q W) (hb : Below W.heap.size W W') : Tw7 w0 s l a q W' :=
  ⟨ask_below h.1 hb (ask_lt h.1), by obtain ⟨base, h2⟩ := h.2.1; exact ⟨base, h2.keep (Turn.of_below hb (fun _ => False)) id id⟩, h.2.2.trans (hb.mono h.2.2.size)⟩
set_option maxRecDepth 100000 in
set_option maxHeartbeats 4000000 in
theorem storeTwin_walk (a0 : Option Addr) (len0 cap0 : Nat) (z0 : Nat → AskV) (a1 : Option Addr) (len1 cap1 : Nat) (z1 : Nat → AskV) (w : World) (w0 : IsAsks w a0 len0 cap0 z0) (w1 : IsAsks w a1 len1 cap1 z1) :
    Calls Try.prog 9 #[.slice a0 len0 cap0, .slice a1 len1 cap1] w fun e w' => e = .returned (.bool true) ∧ Below w.heap.size w w' := by
  have hz := zero_val
  have A0 := w0.at
  have A1 := w1.at
  clear w0 w1
  go_enter Try.func9, Try.ntmps9
  go_wp2_with fail
  refine (new_any _).mono ?_; rintro e w1 ⟨s, l, rfl, hS, t1, gs, gl⟩
  have hsl : s ≠ l := by
    obtain ⟨_, _, q1⟩ := hS.cs
    obtain ⟨_, q2, _⟩ := hS.cl
    intro q; rw [q, q2] at q1; injection q1 with q1; injection q1 with _ q1; cases q1
  generalize hb0 : (fun _ => Val.zero) = b0 at *
  clear hb0
  go_upto_region 4 with fail
  iterate 7 (first | go_step | go_upon | go_back | go_simp)
  go_cut [4, 6] from 21 to 50 (fun r _ wx => r = .bool false ∧ (∃ base, StoreAt wx s l base) ∧ Below w.heap.size w wx)
  case first =>
    --(a
    go_wp2_with fail
    go_loopw [4, 6] (fun r i wr => r = .bool false ∧ ∃ j : Nat, j ≤ len0 ∧ i = .int .i64 (j : Int) ∧ (∃ base, StoreAt wr s l base) ∧ Below w.heap.size w wr) (fun _ i _ => len0 - (intOf i).toNat)
    case atStart => exact ⟨rfl, 0, by omega, rfl, ⟨_, hS⟩, t1⟩
    case round =>
      clear hS t1
      obtain ⟨rfl, j, hj, rfl, ⟨base, hSj⟩, hbj⟩ := hrel
      have j0 : (0 : Int) ≤ (j : Int) := by omega
      by_cases hlt : j < len0
      · have l1 : (j : Int) < (len0 : Int) := by omega
        by_cases h20 : (j : Int) < 20
        · obtain ⟨x, rfl, hc, hq⟩ := A0 j hlt
          have hqb := ask_lt hq
          have hqj := ask_below hq hbj hqb
          clear A0 A1 hq
          go_upto_region 7 with fail
          have S0 : Tw7 w s l (x.add (j * 20)) (z0 j) wr.drew := tw7_below ⟨hqj, ⟨base, hSj⟩, hbj⟩ (below_drewN (Below.refl _ _) 1)
          clear hqj hSj hbj
          have hl7 : l ≠ (x.add (j * 20)).block := by omega
          have HPUT := Lib.hid (fun base W (h : StoreAt W s l base) => sput_any s l base (z0 j).k (z0 j).n (z0 j).v hsl W h)
          have HPL := Lib.hid (fun W => place_any (z0 j).k (z0 j).n W)
          refine wp_region_held_drew (S := Tw7 w s l (x.add (j * 20)) (z0 j)) (by kernel_rfl) S0 (fun hHeld => ?_)
          clear S0
          generalize z0 j = q at *
          refine reg_take (i := 0) (v := ?_) rfl rfl (by kernel_rfl) (by kernel_rfl) (by kernel_rfl) (fun _ _ _ h => h) (by assumption) (by rfl) ?_ ?_
          rotate_left 1
          · (intro w hSw; (try dsimp only at hSw); go_simp; try with_reducible rfl)
          try simp only [List.setIfInBounds_toArray, List.set_cons_zero, List.set_cons_succ]
          refine reg_take (i := 1) (v := ?_) rfl rfl (by kernel_rfl) (by kernel_rfl) (by kernel_rfl) (fun _ _ _ h => h) (by assumption) (by rfl) ?_ ?_
          rotate_left 1
          · (intro w hSw; (try dsimp only at hSw); go_simp; try with_reducible rfl)
          try simp only [List.setIfInBounds_toArray, List.set_cons_zero, List.set_cons_succ]
          refine reg_take (i := 2) (v := ?_) rfl rfl (by kernel_rfl) (by kernel_rfl) (by kernel_rfl) (fun _ _ _ h => h) (by assumption) (by rfl) ?_ ?_
          rotate_left 1
          · (intro w hSw; (try dsimp only at hSw); go_simp; try with_reducible rfl)
          try simp only [List.setIfInBounds_toArray, List.set_cons_zero, List.set_cons_succ]
          refine reg_take (i := 3) (v := ?_) rfl rfl (by kernel_rfl) (by kernel_rfl) (by kernel_rfl) (fun _ _ _ h => h) (by assumption) (by rfl) ?_ ?_
          rotate_left 1
          · (intro w hSw; (try dsimp only at hSw); go_simp; try with_reducible rfl)
          try simp only [List.setIfInBounds_toArray, List.set_cons_zero, List.set_cons_succ]
          refine reg_take (i := 4) (v := ?_) rfl rfl (by kernel_rfl) (by kernel_rfl) (by kernel_rfl) (fun _ _ _ h => h) (by assumption) (by rfl) ?_ ?_
          rotate_left 1
          · (intro w hSw; (try dsimp only at hSw); go_simp; try with_reducible rfl)
          try simp only [List.setIfInBounds_toArray, List.set_cons_zero, List.set_cons_succ]
          refine reg_take (i := 5) (v := ?_) rfl rfl (by kernel_rfl) (by kernel_rfl) (by kernel_rfl) (fun _ _ _ h => h) (by assumption) (by rfl) ?_ ?_
          rotate_left 1
          · (intro w hSw; (try dsimp only at hSw); go_simp; try with_reducible rfl)
          try simp only [List.setIfInBounds_toArray, List.set_cons_zero, List.set_cons_succ]
          refine reg_take (i := 6) (v := ?_) rfl rfl (by kernel_rfl) (by kernel_rfl) (by kernel_rfl) (fun _ _ _ h => h) (by assumption) (by rfl) ?_ ?_
          rotate_left 1
          · (intro w hSw; (try dsimp only at hSw); go_simp; try with_reducible rfl)
          try simp only [List.setIfInBounds_toArray, List.set_cons_zero, List.set_cons_succ]
          refine reg_take (i := 7) (v := ?_) rfl rfl (by kernel_rfl) (by kernel_rfl) (by kernel_rfl) (fun _ _ _ h => h) (by assumption) (by rfl) ?_ ?_
          rotate_left 1
          · (intro w hSw; (try dsimp only at hSw); go_simp; try with_reducible rfl)
          try simp only [List.setIfInBounds_toArray, List.set_cons_zero, List.set_cons_succ]
          refine reg_take (i := 8) (v := ?_) rfl rfl (by kernel_rfl) (by kernel_rfl) (by kernel_rfl) (fun _ _ _ h => h) (by assumption) (by rfl) ?_ ?_
          rotate_left 1
          · (intro w hSw; (try dsimp only at hSw); go_simp; try with_reducible rfl)
          try simp only [List.setIfInBounds_toArray, List.set_cons_zero, List.set_cons_succ]
          refine reg_take (i := 9) (v := ?_) rfl rfl (by kernel_rfl) (by kernel_rfl) (by kernel_rfl) (fun _ _ _ h => h) (by assumption) (by rfl) ?_ ?_
          rotate_left 1
          · (intro w hSw; (try dsimp only at hSw); go_simp; try with_reducible rfl)
          try simp only [List.setIfInBounds_toArray, List.set_cons_zero, List.set_cons_succ]
          refine reg_take (i := 10) (v := (.agg q.v.cells)) rfl rfl (by kernel_rfl) (by kernel_rfl) (by kernel_rfl) (fun _ _ _ h => h) (by assumption) (by rfl) (fun W hW => run_loadV_range W _ _ _ hW.1.2.2.2) ?_
          try simp only [List.setIfInBounds_toArray, List.set_cons_zero, List.set_cons_succ]
          refine reg_take (i := 12) (v := ?_) rfl rfl (by kernel_rfl) (by kernel_rfl) (by kernel_rfl) (fun _ _ _ h => h) (by assumption) (by rfl) ?_ ?_
          rotate_left 1
          · (intro w hSw; (try dsimp only at hSw); go_simp; try with_reducible rfl)
          try simp only [List.setIfInBounds_toArray, List.set_cons_zero, List.set_cons_succ]
          refine reg_take (i := 13) (v := ?_) rfl rfl (by kernel_rfl) (by kernel_rfl) (by kernel_rfl) (fun _ _ _ h => h) (by assumption) (by rfl) ?_ ?_
          rotate_left 1
          · (intro w hSw; (try dsimp only at hSw); go_simp; try with_reducible rfl)
          try simp only [List.setIfInBounds_toArray, List.set_cons_zero, List.set_cons_succ]
          refine reg_take (i := 14) (v := ?_) rfl rfl (by kernel_rfl) (by kernel_rfl) (by kernel_rfl) (fun _ _ _ h => h) (by assumption) (by rfl) ?_ ?_
          rotate_left 1
          · (intro w hSw; (try dsimp only at hSw); go_simp; try with_reducible rfl)
          try simp only [List.setIfInBounds_toArray, List.set_cons_zero, List.set_cons_succ]
          refine reg_take (i := 15) (v := ?_) rfl rfl (by kernel_rfl) (by kernel_rfl) (by kernel_rfl) (fun _ _ _ h => h) (by assumption) (by rfl) ?_ ?_
          rotate_left 1
          · (intro w hSw; (try dsimp only at hSw); go_simp; try with_reducible rfl)
          try simp only [List.setIfInBounds_toArray, List.set_cons_zero, List.set_cons_succ]
          refine reg_take (i := 16) (v := ?_) rfl rfl (by kernel_rfl) (by kernel_rfl) (by kernel_rfl) (fun _ _ _ h => h) (by assumption) (by rfl) ?_ ?_
          rotate_left 1
          · (intro w hSw; (try dsimp only at hSw); go_simp; try with_reducible rfl)
          try simp only [List.setIfInBounds_toArray, List.set_cons_zero, List.set_cons_succ]
          refine reg_step (i := 11) (by kernel_rfl) rfl (by rfl) (fun KC hKC => ?_)
          go_simp
          obtain ⟨base1, hS1⟩ := hHeld.2.1
          refine (HPUT.out base1 _ hS1).mono ?_; rintro e w5 ⟨rfl, hS5, T5⟩
          have s5 : Tw7 w s l (x.add (j * 20)) q w5 := ⟨ask_turn hHeld.1 T5 (fun p => hl7 p.symm), ⟨_, hS5⟩, hHeld.2.2.trans (T5.below (B := w.heap.size) hHeld.2.2.size (fun i p => by have : i = l := p; omega))⟩
          clear hHeld T5 hS5 hS1
          refine hKC.out _ _ ?_ (fun hHeld => ?_)
          · exact s5
          clear hKC KC
          refine reg_step (i := 17) (by kernel_rfl) rfl (by rfl) (fun KC hKC => ?_)
          go_simp
          refine (HPL.out _).mono ?_; rintro e w6 ⟨rfl, t6⟩
          have s6 := tw7_below hHeld t6
          clear hHeld t6 s5
          refine hKC.out _ _ ?_ (fun hHeld => ?_)
          · exact s6
          clear hKC KC HPL HPUT
          refine reg_take (i := 18) (v := ?_) rfl rfl (by kernel_rfl) (by kernel_rfl) (by kernel_rfl) (fun _ _ _ h => h) (by assumption) (by rfl) ?_ ?_
          rotate_left 1
          · (intro w hSw; (try dsimp only at hSw); go_simp; try with_reducible rfl)
          try simp only [List.setIfInBounds_toArray, List.set_cons_zero, List.set_cons_succ]
          refine reg_take (i := 19) (v := ?_) rfl rfl (by kernel_rfl) (by kernel_rfl) (by kernel_rfl) (fun _ _ _ h => h) (by assumption) (by rfl) ?_ ?_
          rotate_left 1
          · (intro w hSw; (try dsimp only at hSw); go_simp; try with_reducible rfl)
          try simp only [List.setIfInBounds_toArray, List.set_cons_zero, List.set_cons_succ]
          refine wpAnyH_done (by kernel_rfl) ?_ _
          clear hHeld
          obtain ⟨_, hS6, hb6⟩ := s6
          go_wp2_with fail
          exact ⟨⟨rfl, j + 1, by omega, by go_num, hS6, hb6⟩, by simp [intOf]; omega⟩
        · go_wp2_with fail
          go_meet
          case rel => exact ⟨rfl, ⟨_, hSj⟩, hbj⟩
      · have l1 : ¬ (j : Int) < (len0 : Int) := by omega
        go_wp2_with fail
        go_meet
        case rel => exact ⟨rfl, ⟨_, hSj⟩, hbj⟩
    --)a
  case rest =>
    obtain ⟨rfl, ⟨base, hS1⟩, hb1⟩ := hcut
    clear hS t1 A0
    go_wp2_with fail
    refine (stwin_any s l base _ hS1).mono ?_; rintro e w2 ⟨s', l', rfl, hS2, hsl2, gs', gl', t2⟩
    have hS1' := hS1.keep (Turn.of_below t2 (fun _ => False)) id id
    have hb2 := hb1.trans (t2.mono hb1.size)
    have hB1 := hb1.size
    have hls1 := hS1.lts
    have hll1 : l < wc.heap.size := by obtain ⟨_, q2, _⟩ := hS1.cl; exact lt_of_heap q2
    clear hS1 t2 hb1
    go_wp2_with fail
    refine (look_any s l base _ hS1').mono ?_; rintro e w3 ⟨L, rfl, rfl, rfl, hV3, t3, gv, gr, gm⟩
    have hS3 := hS2.keep (Turn.of_below t3 (fun _ => False)) id id
    have hb3 := hb2.trans (t3.mono hb2.size)
    have hB2 := hb2.size
    have hls2 := hS2.lts
    have hll2 : l' < w2.heap.size := by obtain ⟨_, q2, _⟩ := hS2.cl; exact lt_of_heap q2
    clear hS2 hS1' t3 hb2
    have hmm := @run_makeMap Try.prog
    go_upto_region 13 with fail
    clear hmm
    have hlt3 := hV3.lts
    have hs3 := hS3.lts
    have hl3 : l' < w3.heap.size := by obtain ⟨_, q2, _⟩ := hS3.cl; exact lt_of_heap q2
    have bM : Below w3.heap.size w3 (w3.alloc (.map #[] 0)) := (Below.refl _ _).alloc (Nat.le_refl _) _
    have rM : blk (w3.alloc (.map #[] 0)) w3.heap.size = some (.map #[] 0) := heap_alloc_new _ _
    have szM : w3.heap.size < (w3.alloc (.map #[] 0)).heap.size := by simp
    generalize w3.alloc (.map #[] 0) = W4 at *
    generalize hB : w3.heap.size = B at *
    go_wp2_with fail
    go_loopw [10] (fun i wr => ∃ j : Nat, j ≤ 55 ∧ i = .int .i64 (j : Int) ∧ Below B w3 wr ∧ ∃ es clk f, blk wr B = some (.map es clk) ∧ KM es clk f ∧ ∀ p, p < j → f (keyP (p : Nat)).1 (keyP (p : Nat)).2 = some (.agg (base p).cells)) (fun i _ => 55 - (intOf i).toNat)
    case atStart => exact ⟨0, by omega, rfl, bM, _, _, _, rM, km_empty, fun p h => absurd h (by omega)⟩
    case round =>
      clear bM rM szM
      obtain ⟨j, hj, rfl, hbj, es, clk, f, hm, hk, hf⟩ := hrel
      have j0 : (0 : Int) ≤ (j : Int) := by omega
      go_wp2_with fail
      refine (all_any _).mono ?_; rintro e w6 ⟨rfl, rfl⟩
      by_cases hlt : j < 55
      · --(b
        have l1 : (j : Int) < 55 := by omega
        go_wp2_with fail
        refine (at_row j hlt _).mono ?_; rintro e w6 ⟨rfl, t6⟩
        have hbB : B ≤ wr.heap.size := by have := hbj.size; omega
        have hb6 := hbj.trans (t6.mono hbB)
        have hm6 := (t6.block B (lt_of_heap hm)).trans hm
        have hBlt := lt_of_heap hm6
        have hpl := place_keyP j hlt
        have hkp := fun p => hf p
        rw [show (atK (j : Int)).getD (0, 0) = keyP (j : Int) from rfl]
        have HF := Lib.hid hf
        clear hf hkp t6 hbj hm
        have hS6 : StoreAt w6 L.s L.l base := store_below hV3.sa hb6 (by omega) (by omega)
        have hg : storeLook base (keyP (j : Int)).1 (keyP (j : Int)).2 = base j := by
          unfold storeLook
          rw [hpl, if_neg (by omega)]; rfl
        have HK := Lib.hid (keyP_place (keyP (j : Int)).1 (keyP (j : Int)).2 (by omega))
        have hne : ∀ p : Nat, p < j → ¬ (keyP (p : Int) = keyP (j : Int)) := fun p hp q => by
          have h1 := place_keyP p (by omega)
          rw [q, hpl] at h1
          omega
        have HNE := Lib.hid hne
        obtain ⟨es', clk', hk', hput⟩ := run_putV (r := B) (clk := clk) hk (keyP (j : Int)).1 (keyP (j : Int)).2 (.agg (base j).cells)
        have hkj : keyP (j : Int) = ((keyP (j : Int)).1, (keyP (j : Int)).2) := rfl
        clear hk HK hne hpl
        generalize (keyP (j : Int)).1 = A at *
        generalize (keyP (j : Int)).2 = C at *
        go_upto_region 17 with fail
        have bA : Below w6.heap.size w6 (w6.alloc (.cells #[.int .i64 A, .int .i64 C] 23)) := (Below.refl _ _).alloc (Nat.le_refl _) _
        have hKK : K2 w6.heap.size A C (w6.alloc (.cells #[.int .i64 A, .int .i64 C] 23)) := ⟨cell_of_row _ _ 0 _ _ _ (heap_alloc_new _ _), cell_of_row _ _ 1 _ _ _ (heap_alloc_new _ _)⟩
        have hS7 := hS6.keep (Turn.of_below bA (fun _ => False)) id id
        have hm7 := (bA.block B hBlt).trans hm6
        have hb7 := hb6.trans (bA.mono (by omega))
        have hBK : w6.heap.size ≠ B := by omega
        clear bA hS6 hm6 hb6
        generalize w6.alloc (.cells #[.int .i64 A, .int .i64 C] 23) = W7 at *
        generalize w6.heap.size = K at *
        have S0 : (fun W => K2 K A C W ∧ Turn (· = B) W7 W) W7.drew := ⟨hKK, (Turn.refl _ _).drew⟩
        refine wp_region_held_drew (S := fun W => K2 K A C W ∧ Turn (· = B) W7 W) (by kernel_rfl) S0 (fun hHeld => ?_)
        clear S0
        refine reg_take (i := 0) (v := ?_) rfl rfl (by kernel_rfl) (by kernel_rfl) (by kernel_rfl) (fun _ _ _ h => h) (by assumption) (by rfl) ?_ ?_
        rotate_left 1
        · (intro w hSw; (try dsimp only at hSw); go_simp; try with_reducible rfl)
        try simp only [List.setIfInBounds_toArray, List.set_cons_zero, List.set_cons_succ]
        refine reg_take (i := 1) (v := ?_) rfl rfl (by kernel_rfl) (by kernel_rfl) (by kernel_rfl) (fun _ _ _ h => h) (by assumption) (by rfl) ?_ ?_
        rotate_left 1
        · (intro w hSw; (try dsimp only at hSw); go_simp; try with_reducible rfl)
        try simp only [List.setIfInBounds_toArray, List.set_cons_zero, List.set_cons_succ]
        refine reg_take (i := 2) (v := ?_) rfl rfl (by kernel_rfl) (by kernel_rfl) (by kernel_rfl) (fun _ _ _ h => h) (by assumption) (by rfl) ?_ ?_
        rotate_left 1
        · (intro w hSw; (try dsimp only at hSw); go_simp; try with_reducible rfl)
        try simp only [List.setIfInBounds_toArray, List.set_cons_zero, List.set_cons_succ]
        refine reg_take (i := 3) (v := ?_) rfl rfl (by kernel_rfl) (by kernel_rfl) (by kernel_rfl) (fun _ _ _ h => h) (by assumption) (by rfl) ?_ ?_
        rotate_left 1
        · (intro w hSw; (try dsimp only at hSw); go_simp; try with_reducible rfl)
        try simp only [List.setIfInBounds_toArray, List.set_cons_zero, List.set_cons_succ]
        refine reg_step (i := 4) (by kernel_rfl) rfl (by rfl) (fun KC hKC => ?_)
        go_simp
        refine (sget_any L.s L.l base A C _ (hS7.keep (S := fun _ => False) (Turn.refl _ _).drew id id)).mono ?_; rintro e w8 ⟨rfl, t8⟩
        rw [hg]
        have t8' : Below W7.heap.size W7 w8 := (below_drewN (Below.refl _ W7) 1).trans t8
        have s8 := And.intro (cells_two hKK t8') (Turn.of_below t8' (· = B))
        have hm8 := (t8'.block B (by have := lt_of_heap hm7; exact this)).trans hm7
        have hb8 := hb7.trans (t8'.mono (by have := lt_of_heap hm7; omega))
        clear hHeld t8 t8' hm7 hb7
        refine hKC.out _ _ ?_ (fun hHeld => ?_)
        · exact s8
        clear hKC KC
        have hrun : (Instr.mapUpdate 59 (.map (some B)) (.agg #[.int .i64 A, .int .i64 C]) (.agg (base j).cells)).run Try.prog w8 = .ok () (setB w8 B (.map es' clk')) := hput w8 hm8
        refine reg_step (i := 5) (by kernel_rfl) rfl (by rfl) (fun KC hKC => ?_)
        go_simp
        refine hKC.out _ _ ?_ (fun hHeld => ?_)
        · exact ⟨⟨(setB_cell _ _ _ _ _ hBK).trans s8.1.1, (setB_cell _ _ _ _ _ hBK).trans s8.1.2⟩, s8.2.setB (b := B) (Or.inl rfl) _⟩
        clear hKC KC
        refine wpAnyH_done (by kernel_rfl) ?_ _
        have hm9 : blk (setB w8 B (.map es' clk')) B = some (.map es' clk') := blk_setB_same _ _ _ (lt_of_heap hm8)
        have hb9 := below_setB hb8 (Nat.le_refl B) (.map es' clk')
        clear hHeld s8 hm8 hb8 hrun hput hKK hS7
        generalize setB w8 B (.map es' clk') = W9 at *
        go_wp2_with fail
        refine ⟨⟨j + 1, by omega, by go_num, hb9, es', clk', _, hm9, hk', fun p hp => ?_⟩, by simp [intOf]; omega⟩
        unfold updK
        by_cases hpj : p = j
        · subst hpj
          rw [hkj, if_pos ⟨rfl, rfl⟩]
        · have h1 := HNE.out p (by omega)
          rw [hkj] at h1
          rw [if_neg (fun q => h1 (Prod.ext q.1 q.2))]
          exact HF.out p (by omega)
        --)b
      · have l1 : ¬ (j : Int) < 55 := by omega
        obtain rfl : j = 55 := by omega
        have hmm := @run_makeMap Try.prog
        go_upto_region 19 with fail
        clear hmm
        have hwas : ∀ k n, 0 ≤ placeI k n → f k n = some (.agg (base (placeI k n).toNat).cells) := fun k n h => by
          have h1 := hf (placeI k n).toNat (by have := place_lt k n; omega)
          rw [show (((placeI k n).toNat : Nat) : Int) = placeI k n by omega, keyP_place k n h] at h1
          exact h1
        have hBlt := lt_of_heap hm
        have hBw : B ≤ wr.heap.size := by omega
        have bO : Below wr.heap.size wr (wr.alloc (.map #[] 0)) := (Below.refl _ _).alloc (Nat.le_refl _) _
        have rO : blk (wr.alloc (.map #[] 0)) wr.heap.size = some (.map #[] 0) := heap_alloc_new _ _
        have hm5 := (bO.block B hBlt).trans hm
        have hb5 := hbj.trans (bO.mono hBw)
        have hV5 := hV3.keep (Turn.of_below (hB ▸ hb5) (fun _ => False)) (fun _ q => q.elim)
        have hS5 := store_below hS3 hb5 (by omega) (by omega)
        have hb6 := hb3.trans (hb5.mono (by have := hb3.size; omega))
        have hB3 := hb3.size
        have F : Far w L s' l' wr.heap.size B := by
          obtain ⟨_, q2, _⟩ := hV3.sa.cl
          obtain ⟨_, _, r1, _⟩ := hV3.cr
          obtain ⟨_, _, m1, _⟩ := hV3.cm
          have e1 : L.v ≠ L.l := by
            have q1 := hV3.cv
            intro q; rw [q, q2] at q1; injection q1 with q1; injection q1 with _ q1; cases q1
          have e2 : L.l ≠ L.r := cells_ne_map q2 r1
          have e3 : L.l ≠ L.m := cells_ne_map q2 m1
          constructor <;> omega
        have HT0 : Tw w L s' l' wr.heap.size B es clk base (VSt.fresh base) (fun _ _ => none) (wr.alloc (.map #[] 0)) := ⟨hV5, VOk.fresh base, ⟨_, _, rO, km_empty⟩, hm5, hS5, hb6⟩
        have HWL := fun (W : World) (q : blk W B = some (.map es clk)) (k n : Int) (hp : 0 ≤ placeI k n) => wlook_blk hk hwas q k n hp
        clear hf hwas hm hbj hb5 hb3 bO hV3 hS3 hm5 hV5 hS5 hb6 rO hk
        generalize wr.alloc (.map #[] 0) = W5 at *
        generalize wr.heap.size = O at *
        iterate 7 (first | go_step | go_upon | go_back | go_simp)
        go_cut [4, 14] from 78 to 150 (fun r _ wx => r = .bool false ∧ ∃ st, Tw w L s' l' O B es clk base st st.wr wx)
        case first =>
          go_wp2_with fail
          go_loopw [4, 14] (fun r i wr => r = .bool false ∧ ∃ j : Nat, j ≤ len1 ∧ i = .int .i64 (j : Int) ∧ ∃ st, Tw w L s' l' O B es clk base st st.wr wr) (fun _ i _ => len1 - (intOf i).toNat)
          case atStart => exact ⟨rfl, 0, by omega, rfl, _, HT0⟩
          case round =>
            clear HT0
            obtain ⟨rfl, j, hj, rfl, st, H⟩ := hrel
            have j0 : (0 : Int) ≤ (j : Int) := by omega
            by_cases hlt : j < len1
            · have l1 : (j : Int) < (len1 : Int) := by omega
              by_cases h20 : (j : Int) < 20
              · obtain ⟨x, rfl, hc, hq⟩ := A1 j hlt
                have hqb := ask_lt hq
                have hqj := ask_below hq H.b hqb
                clear A1 hq
                generalize z1 j = q at *
                go_upto_region 23 with fail
                have bA : Below wr.heap.size wr (wr.alloc (.cells #[.int .i64 q.k, .int .i64 q.n] 23)) := (Below.refl _ _).alloc (Nat.le_refl _) _
                have hKK : K2 wr.heap.size q.k q.n (wr.alloc (.cells #[.int .i64 q.k, .int .i64 q.n] 23)) := ⟨cell_of_row _ _ 0 _ _ _ (heap_alloc_new _ _), cell_of_row _ _ 1 _ _ _ (heap_alloc_new _ _)⟩
                have hqr := ask_lt hqj
                have hq6 := ask_below hqj bA hqr
                have hrf : wr.heap.size ≠ L.r ∧ wr.heap.size ≠ L.m ∧ wr.heap.size ≠ L.l ∧ wr.heap.size ≠ O ∧ wr.heap.size ≠ B := by
                  have h1 := H.v.lts
                  obtain ⟨_, _, h2, _⟩ := H.own
                  have h3 := lt_of_heap h2
                  have h4 := lt_of_heap H.was
                  omega
                have hxf : (x.add (j * 20)).block ≠ L.r ∧ (x.add (j * 20)).block ≠ L.m ∧ (x.add (j * 20)).block ≠ L.l ∧ (x.add (j * 20)).block ≠ O := by
                  have h1 := F.rw_; have h2 := F.mw; have h3 := F.lw; have h4 := F.ow
                  omega
                have H6 := H.below bA
                clear bA hqj H hqr hqb
                generalize wr.alloc (.cells #[.int .i64 q.k, .int .i64 q.n] 23) = W6 at *
                generalize wr.heap.size = K at *
                obtain ⟨k0, k1⟩ := hKK
                go_wp2_with fail
                refine (place_any q.k q.n _).mono ?_; rintro e w7 ⟨rfl, t7⟩
                have hKK := cells_two ⟨k0, k1⟩ t7
                have hq7 := ask_below hq6 t7 (ask_lt hq6)
                have H7 := H6.below t7
                clear k0 k1 hq6 t7 H6
                by_cases hp : placeI q.k q.n < 0
                · have hd : decide (placeI q.k q.n < 0) = true := decide_eq_true hp
                  go_wp2_with fail
                  exact ⟨⟨rfl, j + 1, by omega, by go_num, st, H7⟩, by simp [intOf]; omega⟩
                have hd : decide (placeI q.k q.n < 0) = false := decide_eq_false hp
                obtain ⟨y0, y1, y2, y3⟩ := hq7
                go_upto_if 102 with fail
                go_cut [16] from 103 to 125 (fun _ wx => K2 K q.k q.n wx ∧ ∃ st', Tw w L s' l' O B es clk base st' st'.wr wx)
                case first =>
                  --(c
                  refine wp_cond_split rfl (fun h => ?_) (fun h => ?_)
                  · clear h
                    go_upto_region 25 with fail
                    have H8 := H7.below (below_drewN (Below.refl _ _) 1)
                    have S0 : (fun W => K2 K q.k q.n W ∧ AskAt W (x.add (j * 20)) q) w7.drew := ⟨⟨hKK.1, hKK.2⟩, ⟨y0, y1, y2, y3⟩⟩
                    refine wp_region_held_drew (S := fun W => K2 K q.k q.n W ∧ AskAt W (x.add (j * 20)) q) (by kernel_rfl) S0 (fun hHeld => ?_)
                    clear S0 y0 y1 y2 y3 hKK H7
                    refine reg_take (i := 0) (v := ?_) rfl rfl (by kernel_rfl) (by kernel_rfl) (by kernel_rfl) (fun _ _ _ h => h) (by assumption) (by rfl) ?_ ?_
                    rotate_left 1
                    · (intro w hSw; (try dsimp only at hSw); go_simp; try with_reducible rfl)
                    try simp only [List.setIfInBounds_toArray, List.set_cons_zero, List.set_cons_succ]
                    refine reg_take (i := 1) (v := ?_) rfl rfl (by kernel_rfl) (by kernel_rfl) (by kernel_rfl) (fun _ _ _ h => h) (by assumption) (by rfl) ?_ ?_
                    rotate_left 1
                    · (intro w hSw; (try dsimp only at hSw); go_simp; try with_reducible rfl)
                    try simp only [List.setIfInBounds_toArray, List.set_cons_zero, List.set_cons_succ]
                    refine reg_take (i := 2) (v := ?_) rfl rfl (by kernel_rfl) (by kernel_rfl) (by kernel_rfl) (fun _ _ _ h => h) (by assumption) (by rfl) ?_ ?_
                    rotate_left 1
                    · (intro w hSw; (try dsimp only at hSw); go_simp; try with_reducible rfl)
                    try simp only [List.setIfInBounds_toArray, List.set_cons_zero, List.set_cons_succ]
                    refine reg_take (i := 3) (v := ?_) rfl rfl (by kernel_rfl) (by kernel_rfl) (by kernel_rfl) (fun _ _ _ h => h) (by assumption) (by rfl) ?_ ?_
                    rotate_left 1
                    · (intro w hSw; (try dsimp only at hSw); go_simp; try with_reducible rfl)
                    try simp only [List.setIfInBounds_toArray, List.set_cons_zero, List.set_cons_succ]
                    refine reg_take (i := 4) (v := ?_) rfl rfl (by kernel_rfl) (by kernel_rfl) (by kernel_rfl) (fun _ _ _ h => h) (by assumption) (by rfl) ?_ ?_
                    rotate_left 1
                    · (intro w hSw; (try dsimp only at hSw); go_simp; try with_reducible rfl)
                    try simp only [List.setIfInBounds_toArray, List.set_cons_zero, List.set_cons_succ]
                    refine reg_take (i := 5) (v := ?_) rfl rfl (by kernel_rfl) (by kernel_rfl) (by kernel_rfl) (fun _ _ _ h => h) (by assumption) (by rfl) ?_ ?_
                    rotate_left 1
                    · (intro w hSw; (try dsimp only at hSw); go_simp; try with_reducible rfl)
                    try simp only [List.setIfInBounds_toArray, List.set_cons_zero, List.set_cons_succ]
                    refine reg_take (i := 6) (v := (.agg q.v.cells)) rfl rfl (by kernel_rfl) (by kernel_rfl) (by kernel_rfl) (fun _ _ _ h => h) (by assumption) (by rfl) (fun W hW => run_loadV_range W _ _ _ hW.2.2.2.2) ?_
                    try simp only [List.setIfInBounds_toArray, List.set_cons_zero, List.set_cons_succ]
                    refine reg_step (i := 7) (by kernel_rfl) rfl (by rfl) (fun KC hKC => ?_)
                    go_simp
                    refine (vput_any L st q.k q.n q.v _ H8.v).mono ?_; rintro e w8 ⟨rfl, hV8, T8⟩
                    have hK8 := turn_cells_two hHeld.1 T8 hrf.2.1
                    have hq8 := ask_turn hHeld.2 T8 hxf.2.1
                    have H9 := H8.put F q.k q.n q.v hV8 T8
                    clear hHeld H8 hV8 T8
                    refine hKC.out _ _ ?_ (fun hHeld => ?_)
                    · exact ⟨hK8, hq8⟩
                    clear hKC KC
                    refine wpAnyH_done (by kernel_rfl) ?_ _
                    clear hHeld
                    obtain ⟨k0, k1⟩ := hK8
                    go_upto_region 26 with fail
                    have H10 : Tw w L s' l' O B es clk base (st.put q.k q.n q.v) st.wr w8.drew := H9.below (below_drewN (Below.refl _ _) 1)
                    obtain ⟨es2, clk2, es3, clk3, ho, hrun, hstep⟩ := H10.oput F q.k q.n q.v
                    have hrun2 := hrun _ ho
                    have H11 := hstep _ H10 ho
                    have S0 : (fun W => K2 K q.k q.n W ∧ AskAt W (x.add (j * 20)) q) w8.drew := ⟨⟨k0, k1⟩, hq8⟩
                    refine wp_region_held_drew (S := fun W => K2 K q.k q.n W ∧ AskAt W (x.add (j * 20)) q) (by kernel_rfl) S0 (fun hHeld => ?_)
                    clear S0 k0 k1 hq8 H9 H10 hrun hstep ho
                    refine reg_take (i := 0) (v := ?_) rfl rfl (by kernel_rfl) (by kernel_rfl) (by kernel_rfl) (fun _ _ _ h => h) (by assumption) (by rfl) ?_ ?_
                    rotate_left 1
                    · (intro w hSw; (try dsimp only at hSw); go_simp; try with_reducible rfl)
                    try simp only [List.setIfInBounds_toArray, List.set_cons_zero, List.set_cons_succ]
                    refine reg_take (i := 1) (v := ?_) rfl rfl (by kernel_rfl) (by kernel_rfl) (by kernel_rfl) (fun _ _ _ h => h) (by assumption) (by rfl) ?_ ?_
                    rotate_left 1
                    · (intro w hSw; (try dsimp only at hSw); go_simp; try with_reducible rfl)
                    try simp only [List.setIfInBounds_toArray, List.set_cons_zero, List.set_cons_succ]
                    refine reg_take (i := 2) (v := ?_) rfl rfl (by kernel_rfl) (by kernel_rfl) (by kernel_rfl) (fun _ _ _ h => h) (by assumption) (by rfl) ?_ ?_
                    rotate_left 1
                    · (intro w hSw; (try dsimp only at hSw); go_simp; try with_reducible rfl)
                    try simp only [List.setIfInBounds_toArray, List.set_cons_zero, List.set_cons_succ]
                    refine reg_take (i := 3) (v := ?_) rfl rfl (by kernel_rfl) (by kernel_rfl) (by kernel_rfl) (fun _ _ _ h => h) (by assumption) (by rfl) ?_ ?_
                    rotate_left 1
                    · (intro w hSw; (try dsimp only at hSw); go_simp; try with_reducible rfl)
                    try simp only [List.setIfInBounds_toArray, List.set_cons_zero, List.set_cons_succ]
                    refine reg_take (i := 4) (v := ?_) rfl rfl (by kernel_rfl) (by kernel_rfl) (by kernel_rfl) (fun _ _ _ h => h) (by assumption) (by rfl) ?_ ?_
                    rotate_left 1
                    · (intro w hSw; (try dsimp only at hSw); go_simp; try with_reducible rfl)
                    try simp only [List.setIfInBounds_toArray, List.set_cons_zero, List.set_cons_succ]
                    refine reg_take (i := 5) (v := ?_) rfl rfl (by kernel_rfl) (by kernel_rfl) (by kernel_rfl) (fun _ _ _ h => h) (by assumption) (by rfl) ?_ ?_
                    rotate_left 1
                    · (intro w hSw; (try dsimp only at hSw); go_simp; try with_reducible rfl)
                    try simp only [List.setIfInBounds_toArray, List.set_cons_zero, List.set_cons_succ]
                    refine reg_take (i := 6) (v := (.agg q.v.cells)) rfl rfl (by kernel_rfl) (by kernel_rfl) (by kernel_rfl) (fun _ _ _ h => h) (by assumption) (by rfl) (fun W hW => run_loadV_range W _ _ _ hW.2.2.2.2) ?_
                    try simp only [List.setIfInBounds_toArray, List.set_cons_zero, List.set_cons_succ]
                    have s9 : (fun W => K2 K q.k q.n W ∧ AskAt W (x.add (j * 20)) q) (setB w8.drew O (.map es3 clk3)) := ⟨⟨(setB_cell _ _ _ _ _ hrf.2.2.2.1).trans hHeld.1.1, (setB_cell _ _ _ _ _ hrf.2.2.2.1).trans hHeld.1.2⟩, ask_blk hHeld.2 (setB_other _ _ _ _ hxf.2.2.2)⟩
                    refine reg_step (i := 7) (by kernel_rfl) rfl (by rfl) (fun KC hKC => ?_)
                    go_simp
                    refine hKC.out _ _ ?_ (fun hHeld => ?_)
                    · exact s9
                    clear hKC KC
                    refine wpAnyH_done (by kernel_rfl) ?_ _
                    go_wp2_with fail
                    go_meet
                    case rel => exact ⟨s9.1, _, by rw [put_wr st q.k q.n q.v (by omega)]; exact H11⟩
                  · clear h
                    go_upto_region 27 with fail
                    have H8 := H7.below (below_drewN (Below.refl _ _) 1)
                    have S0 : (fun W => K2 K q.k q.n W ∧ AskAt W (x.add (j * 20)) q) w7.drew := ⟨⟨hKK.1, hKK.2⟩, ⟨y0, y1, y2, y3⟩⟩
                    refine wp_region_held_drew (S := fun W => K2 K q.k q.n W ∧ AskAt W (x.add (j * 20)) q) (by kernel_rfl) S0 (fun hHeld => ?_)
                    clear S0 y0 y1 y2 y3 hKK H7
                    refine reg_take (i := 0) (v := ?_) rfl rfl (by kernel_rfl) (by kernel_rfl) (by kernel_rfl) (fun _ _ _ h => h) (by assumption) (by rfl) ?_ ?_
                    rotate_left 1
                    · (intro w hSw; (try dsimp only at hSw); go_simp; try with_reducible rfl)
                    try simp only [List.setIfInBounds_toArray, List.set_cons_zero, List.set_cons_succ]
                    refine reg_take (i := 1) (v := ?_) rfl rfl (by kernel_rfl) (by kernel_rfl) (by kernel_rfl) (fun _ _ _ h => h) (by assumption) (by rfl) ?_ ?_
                    rotate_left 1
                    · (intro w hSw; (try dsimp only at hSw); go_simp; try with_reducible rfl)
                    try simp only [List.setIfInBounds_toArray, List.set_cons_zero, List.set_cons_succ]
                    refine reg_take (i := 2) (v := ?_) rfl rfl (by kernel_rfl) (by kernel_rfl) (by kernel_rfl) (fun _ _ _ h => h) (by assumption) (by rfl) ?_ ?_
                    rotate_left 1
                    · (intro w hSw; (try dsimp only at hSw); go_simp; try with_reducible rfl)
                    try simp only [List.setIfInBounds_toArray, List.set_cons_zero, List.set_cons_succ]
                    refine reg_take (i := 3) (v := ?_) rfl rfl (by kernel_rfl) (by kernel_rfl) (by kernel_rfl) (fun _ _ _ h => h) (by assumption) (by rfl) ?_ ?_
                    rotate_left 1
                    · (intro w hSw; (try dsimp only at hSw); go_simp; try with_reducible rfl)
                    try simp only [List.setIfInBounds_toArray, List.set_cons_zero, List.set_cons_succ]
                    refine reg_take (i := 4) (v := ?_) rfl rfl (by kernel_rfl) (by kernel_rfl) (by kernel_rfl) (fun _ _ _ h => h) (by assumption) (by rfl) ?_ ?_
                    rotate_left 1
                    · (intro w hSw; (try dsimp only at hSw); go_simp; try with_reducible rfl)
                    try simp only [List.setIfInBounds_toArray, List.set_cons_zero, List.set_cons_succ]
                    refine reg_take (i := 5) (v := ?_) rfl rfl (by kernel_rfl) (by kernel_rfl) (by kernel_rfl) (fun _ _ _ h => h) (by assumption) (by rfl) ?_ ?_
                    rotate_left 1
                    · (intro w hSw; (try dsimp only at hSw); go_simp; try with_reducible rfl)
                    try simp only [List.setIfInBounds_toArray, List.set_cons_zero, List.set_cons_succ]
                    refine reg_take (i := 6) (v := (.agg q.v.cells)) rfl rfl (by kernel_rfl) (by kernel_rfl) (by kernel_rfl) (fun _ _ _ h => h) (by assumption) (by rfl) (fun W hW => run_loadV_range W _ _ _ hW.2.2.2.2) ?_
                    try simp only [List.setIfInBounds_toArray, List.set_cons_zero, List.set_cons_succ]
                    refine reg_step (i := 7) (by kernel_rfl) rfl (by rfl) (fun KC hKC => ?_)
                    go_simp
                    refine (sput_any L.s L.l st.base q.k q.n q.v hsl _ H8.v.sa).mono ?_; rintro e w8 ⟨rfl, hS8, T8⟩
                    have hK8 := turn_cells_two hHeld.1 T8 hrf.2.2.1
                    have hq8 := ask_turn hHeld.2 T8 hxf.2.2.1
                    have H9 := H8.sput F _ hS8 T8
                    clear hHeld H8 hS8 T8
                    refine hKC.out _ _ ?_ (fun hHeld => ?_)
                    · exact ⟨hK8, hq8⟩
                    clear hKC KC
                    refine wpAnyH_done (by kernel_rfl) ?_ _
                    clear hHeld
                    go_wp2_with fail
                    go_meet
                    case rel => exact ⟨hK8, _, H9⟩
                  --)c
                case rest =>
                  obtain ⟨⟨k0, k1⟩, st', H8⟩ := hcut
                  clear y0 y1 y2 y3 hKK H7
                  have hlk := H8.olook q.k q.n
                  have hK8 : K < wc.heap.size := cell_block_lt k0
                  generalize ho : st'.wr q.k q.n = o at *
                  have HOO := Lib.hid ho
                  clear ho
                  go_upto_if 133 with fail
                  have bA : Below wc.heap.size wc (wc.alloc (.cells (o.getD Val.zero).cells 44)) := (Below.refl _ _).alloc (Nat.le_refl _) _
                  have rX : blk (wc.alloc (.cells (o.getD Val.zero).cells 44)) wc.heap.size = some (.cells (o.getD Val.zero).cells 44 (0, 0)) := heap_alloc_new _ _
                  have hKK := cells_two ⟨k0, k1⟩ bA
                  have H9 := H8.below bA
                  have hXr : wc.heap.size ≠ L.r ∧ wc.heap.size ≠ K := by
                    have h1 := H8.v.lts
                    omega
                  have hX1 := H8.v.lts
                  have hX2 : O < wc.heap.size ∧ B < wc.heap.size ∧ s' < wc.heap.size ∧ l' < wc.heap.size ∧ w.heap.size ≤ wc.heap.size := by
                    obtain ⟨_, _, h2, _⟩ := H8.own
                    obtain ⟨_, h3, _⟩ := H8.tw.cl
                    exact ⟨lt_of_heap h2, lt_of_heap H8.was, H8.tw.lts, lt_of_heap h3, H8.b.size⟩
                  clear k0 k1 H8 bA hlk hK8
                  generalize wc.alloc (.cells (o.getD Val.zero).cells 44) = W9 at *
                  generalize wc.heap.size = X at *
                  go_cut [4] from 134 to 136 (fun r wx => r = .bool false ∧ K2 K q.k q.n wx ∧ Tw w L s' l' O B es clk base st' st'.wr wx ∧ blk wx X = some (.cells (st'.get q.k q.n).cells 44 (0, 0)))
                  case first =>
                    cases o with
                    | none =>
                      obtain ⟨k0, k1⟩ := hKK
                      go_wp2_with fail
                      refine (sget_any L.s L.l st'.base q.k q.n _ H9.v.sa).mono ?_; rintro e w10 ⟨rfl, t10⟩
                      have hK10 := cells_two ⟨k0, k1⟩ t10
                      have H10 := H9.below t10
                      have rX10 : blk w10 X = some (.cells ((none : Option Val).getD Val.zero).cells 44 (0, 0)) := (t10.block X (lt_of_heap rX)).trans rX
                      rw [← look_none st' q.k q.n (by omega) HOO.out]
                      clear t10 H9 rX k0 k1
                      go_wp2_with fail
                      go_meet
                      case rel =>
                        have T : Turn (· = X) w10 (w10.setRow X (st'.get q.k q.n).cells) := (Turn.refl (· = X) w10).setRow (b := X) (Or.inl rfl) _
                        exact ⟨rfl, turn_cells_two hK10 T (fun e => hXr.2 e.symm), H10.low (below_setRow (Below.refl X w10) (Nat.le_refl X) _) hX1 hX2.1 hX2.2.1 hX2.2.2.1 hX2.2.2.2.1 hX2.2.2.2.2, setRow_heap _ _ _ _ _ _ rX10⟩
                    | some y =>
                      go_wp2_with fail
                      go_meet
                      case rel => exact ⟨rfl, hKK, H9, by rw [look_some st' q.k q.n y (by omega) HOO.out]; exact rX⟩
                  case rest =>
                    obtain ⟨rfl, hK10, H10, rX10⟩ := hcut
                    clear hKK H9 rX HOO
                    go_upto_region 31 with fail
                    have H11 : Tw w L s' l' O B es clk base st' st'.wr wc.drew := H10.below (below_drewN (Below.refl _ _) 1)
                    have S0 : (fun W => K2 K q.k q.n W ∧ blk W X = some (.cells (st'.get q.k q.n).cells 44 (0, 0)) ∧ blk W B = some (.map es clk)) wc.drew := ⟨⟨hK10.1, hK10.2⟩, rX10, H10.was⟩
                    clear H10 hK10 rX10
                    refine wp_region_held_drew (S := fun W => K2 K q.k q.n W ∧ blk W X = some (.cells (st'.get q.k q.n).cells 44 (0, 0)) ∧ blk W B = some (.map es clk)) (by kernel_rfl) S0 (fun hHeld => ?_)
                    clear S0
                    refine reg_take (i := 0) (v := ?_) rfl rfl (by kernel_rfl) (by kernel_rfl) (by kernel_rfl) (fun _ _ _ h => h) (by assumption) (by rfl) ?_ ?_
                    rotate_left 1
                    · (intro w hSw; (try dsimp only at hSw); go_simp; try with_reducible rfl)
                    try simp only [List.setIfInBounds_toArray, List.set_cons_zero, List.set_cons_succ]
                    refine reg_take (i := 1) (v := ?_) rfl rfl (by kernel_rfl) (by kernel_rfl) (by kernel_rfl) (fun _ _ _ h => h) (by assumption) (by rfl) ?_ ?_
                    rotate_left 1
                    · (intro w hSw; (try dsimp only at hSw); go_simp; try with_reducible rfl)
                    try simp only [List.setIfInBounds_toArray, List.set_cons_zero, List.set_cons_succ]
                    refine reg_take (i := 3) (v := .agg (st'.get q.k q.n).cells) rfl rfl (by kernel_rfl) (by kernel_rfl) (by kernel_rfl) (fun _ _ _ h => h) (by assumption) (by rfl) (fun w hS => loadV_blk hS.2.1) ?_
                    try simp only [List.setIfInBounds_toArray, List.set_cons_zero, List.set_cons_succ]
                    refine reg_step (i := 2) (by kernel_rfl) rfl (by rfl) (fun KC hKC => ?_)
                    go_simp
                    refine (vget_any L st' q.k q.n _ H11.v).mono ?_; rintro e w12 ⟨rfl, hV12, T12⟩
                    have H12 := H11.saw F q.k q.n hV12 T12
                    have s12 : K2 K q.k q.n w12 ∧ blk w12 X = some (.cells (st'.get q.k q.n).cells 44 (0, 0)) ∧ blk w12 B = some (.map es clk) := ⟨turn_cells_two hHeld.1 T12 hrf.1, blk_of_turn T12 hHeld.2.1 hXr.1, H12.was⟩
                    clear hHeld H11 hV12 T12
                    refine hKC.out _ _ ?_ (fun hHeld => ?_)
                    · exact s12
                    clear hKC KC
                    have hne := neqV_run (st'.get q.k q.n)
                    refine reg_take (i := 4) (v := .bool false) rfl rfl (by kernel_rfl) (by kernel_rfl) (by kernel_rfl) (fun _ _ _ h => h) (by assumption) (by rfl) (fun w hS => run_neq_op rfl rfl (by kernel_rfl) (hne w)) ?_
                    try simp only [List.setIfInBounds_toArray, List.set_cons_zero, List.set_cons_succ]
                    refine reg_take (i := 5) (v := ?_) rfl rfl (by kernel_rfl) (by kernel_rfl) (by kernel_rfl) (fun _ _ _ h => h) (by assumption) (by rfl) ?_ ?_
                    rotate_left 1
                    · (intro w hSw; (try dsimp only at hSw); go_simp; try with_reducible rfl)
                    try simp only [List.setIfInBounds_toArray, List.set_cons_zero, List.set_cons_succ]
                    refine reg_take (i := 6) (v := ?_) rfl rfl (by kernel_rfl) (by kernel_rfl) (by kernel_rfl) (fun _ _ _ h => h) (by assumption) (by rfl) ?_ ?_
                    rotate_left 1
                    · (intro w hSw; (try dsimp only at hSw); go_simp; try with_reducible rfl)
                    try simp only [List.setIfInBounds_toArray, List.set_cons_zero, List.set_cons_succ]
                    refine reg_take (i := 7) (v := ?_) rfl rfl (by kernel_rfl) (by kernel_rfl) (by kernel_rfl) (fun _ _ _ h => h) (by assumption) (by rfl) ?_ ?_
                    rotate_left 1
                    · (intro w hSw; (try dsimp only at hSw); go_simp; try with_reducible rfl)
                    try simp only [List.setIfInBounds_toArray, List.set_cons_zero, List.set_cons_succ]
                    refine reg_take (i := 9) (v := ?_) rfl rfl (by kernel_rfl) (by kernel_rfl) (by kernel_rfl) (fun _ _ _ h => h) (by assumption) (by rfl) ?_ ?_
                    rotate_left 1
                    · (intro w hSw; (try dsimp only at hSw); go_simp; try with_reducible rfl)
                    try simp only [List.setIfInBounds_toArray, List.set_cons_zero, List.set_cons_succ]
                    refine reg_take (i := 10) (v := ?_) rfl rfl (by kernel_rfl) (by kernel_rfl) (by kernel_rfl) (fun _ _ _ h => h) (by assumption) (by rfl) ?_ ?_
                    rotate_left 1
                    · (intro w hSw; (try dsimp only at hSw); go_simp; try with_reducible rfl)
                    try simp only [List.setIfInBounds_toArray, List.set_cons_zero, List.set_cons_succ]
                    refine reg_take (i := 11) (v := .agg (storeLook base q.k q.n).cells) rfl rfl (by kernel_rfl) (by kernel_rfl) (by kernel_rfl) (fun _ _ _ h => h) (by assumption) (by rfl) (fun w hS => run_look_op (HWL w hS.2.2 q.k q.n (by omega))) ?_
                    try simp only [List.setIfInBounds_toArray, List.set_cons_zero, List.set_cons_succ]
                    refine reg_step (i := 8) (by kernel_rfl) rfl (by rfl) (fun KC hKC => ?_)
                    go_simp
                    refine (sget_any s' l' base q.k q.n _ H12.tw).mono ?_; rintro e w13 ⟨rfl, t13⟩
                    have H13 := H12.below t13
                    have s13 : K2 K q.k q.n w13 ∧ blk w13 X = some (.cells (st'.get q.k q.n).cells 44 (0, 0)) ∧ blk w13 B = some (.map es clk) := ⟨cells_two s12.1 t13, (t13.block X (lt_of_heap s12.2.1)).trans s12.2.1, H13.was⟩
                    clear hHeld s12 H12 t13
                    refine hKC.out _ _ ?_ (fun hHeld => ?_)
                    · exact s13
                    clear hKC KC
                    have hne2 := neqV_run (storeLook base q.k q.n)
                    refine reg_take (i := 12) (v := .bool false) rfl rfl (by kernel_rfl) (by kernel_rfl) (by kernel_rfl) (fun _ _ _ h => h) (by assumption) (by rfl) (fun w hS => run_neq_op rfl rfl (by kernel_rfl) (hne2 w)) ?_
                    try simp only [List.setIfInBounds_toArray, List.set_cons_zero, List.set_cons_succ]
                    refine reg_take (i := 13) (v := ?_) rfl rfl (by kernel_rfl) (by kernel_rfl) (by kernel_rfl) (fun _ _ _ h => h) (by assumption) (by rfl) ?_ ?_
                    rotate_left 1
                    · (intro w hSw; (try dsimp only at hSw); go_simp; try with_reducible rfl)
                    try simp only [List.setIfInBounds_toArray, List.set_cons_zero, List.set_cons_succ]
                    refine wpAnyH_done (by kernel_rfl) ?_ _
                    clear hHeld s13 hne hne2
                    go_wp2_with fail
                    exact ⟨⟨rfl, j + 1, by omega, by go_num, _, by rw [saw_wr]; exact H13⟩, by simp [intOf]; omega⟩
              · go_wp2_with fail
                go_meet
                case rel => exact ⟨rfl, _, H⟩
            · have l1 : ¬ (j : Int) < (len1 : Int) := by omega
              go_wp2_with fail
              go_meet
              case rel => exact ⟨rfl, _, H⟩
        case rest =>
          clear HT0
          obtain ⟨rfl, st, H⟩ := hcut
          go_wp2_with fail
          refine (vredo_any L st _ H.v H.ok).mono ?_; rintro e w14 ⟨v, rfl, hwl, t14⟩
          obtain ⟨av, cv, rfl, hcv, _⟩ := hwl.form
          have H14 := H.below t14
          have hlen := H14.len 3
          have hb14 := H14.b
          clear H t14 hwl H14
          generalize (wrL st).length = n at *
          go_wp2_with fail
          refine (sruns_any _).mono ?_; rintro e w15 ⟨rfl, t15⟩
          go_wp2_with fail
          go_ret
          exact ⟨rfl, hb14.trans (t15.mono hb14.size)⟩
end Go.Proofs.Ytncgppdmfnapiaa.St
