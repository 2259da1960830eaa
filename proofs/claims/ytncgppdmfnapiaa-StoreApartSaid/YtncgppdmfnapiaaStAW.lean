/- The walk of cloisterlaw8.StoreApart. No condition but those written in the statement. -/
import Derived.Test.YtncgppdmfnapiaaStAP
import Derived.Test.YtncgppdmfnapiaaMix
import Derived.Deep.CutRange
import Derived.Deep.CutBlock
namespace Go.Proofs.Ytncgppdmfnapiaa.St
open Go.RowKit
set_option linter.unusedVariables false
attribute [local go_sem] blk_alloc_at blk_alloc_past blk_drew blk_drewN blk_setB_same blk_setB_other blk_setRow_other setRow_alloc_at setRow_alloc_past setRow_drewN setRow_drew setB_size setB_cell setB_frozen setB_alloc_past setB_drewN setB_drew run_loadV loadOr_cells run_storeV storeOr_cells cells_size ones_cells
attribute [local go_sem ↓] execOp_loadV execOp_storeV execOp_loadW execOp_storeW
attribute [local irreducible] Int.lt Int.le
abbrev zWA : Array Value := #[.int .i64 0, .int .i64 0, .int .i64 0, .int .i64 0, .int .i64 0, .int .i64 0, .int .i64 0, .int .i64 0, .int .i64 0, .int .i64 0, .int .i64 0, .int .i64 0, .int .i64 0, .int .i64 0, .int .i64 0, .int .i64 0, .int .i64 0, .int .i64 0, .string ⟨#[]⟩]
/-- What loop 1's region holds. -/
abbrev Ap7 (w0 : World) (s l : Nat) (a : Addr) (q : AskV) (W : World) : Prop := AskAt W a q ∧ (∃ base, StoreAt W s l base) ∧ Below w0.heap.size w0 W
theorem ap7_below {w0 : World} {s l : Nat} {a : Addr} {q : AskV} {W W' : World} (h : Ap7 w0 s l a q W) (hb : Below W.heap.size W W') : Ap7 w0 s l a q W' :=
  ⟨ask_below h.1 hb (ask_lt h.1), by obtain ⟨base, h2⟩ := h.2.1; exact ⟨base, h2.keep (Turn.of_below hb (fun _ => False)) id id⟩, h.2.2.trans (hb.mono h.2.2.size)⟩
abbrev HdAt (g o : Nat) (cur : Array Value) (A C : Int) (W : World) : Prop := W.cell? ⟨g, o, none⟩ = some (.int .i64 A) ∧ W.cell? ⟨g, o + 1, none⟩ = some (.int .i64 C) ∧ blk W g = some (.cells cur 53 (0, 0))
theorem hd_turn {g o : Nat} {cur : Array Value} {A C : Int} {W W' : World} {s b : Nat} {base : Nat → Val} (h : HdAt g o cur A C W) (hT : Turn (· = b) W W') (hS : StoreAt W s b base) : HdAt g o cur A C W' := by
  obtain ⟨_, q, _⟩ := hS.cl
  have hne : g ≠ b := fun e => by
    have h3 := h.2.2
    subst e
    unfold blk at h3
    rw [q] at h3
    injection h3 with h3
    injection h3 with _ h3
    cases h3
  have hb := hT.block g (lt_of_heap h.2.2) hne
  have e : ∀ i, W'.cell? ⟨g, i, none⟩ = W.cell? ⟨g, i, none⟩ := fun i => by simp only [World.cell?, hb]
  exact ⟨by rw [e]; exact h.1, by rw [e]; exact h.2.1, blk_of_turn hT h.2.2 hne⟩
def sLen : Value → Nat
  | .slice _ n _ => n
  | _ => 0
/-- What loop 5 keeps. -/
def A5 (w : World) (s1 l1 s2 l2 : Nat) (T : Nat → Val) (pv qv : Value) (pl ql : List Wr) (W : World) : Prop :=
  SW W pv pl ∧ SW W qv ql ∧ StoreAt W s1 l1 T ∧ (∃ ub, StoreAt W s2 l2 ub ∧ putAll ub (pl ++ ql) = T) ∧ Dis pl ql ∧ Below w.heap.size w W
theorem apart_put {a b : VSt} {k n : Int} {x : Val} (h : ∀ i j, (b.wr i j).isSome = true → a.wr i j = none) (hn : 0 ≤ placeI k n ∧ a.wr k n = none) : ∀ i j, (((b.saw k n).put k n x).wr i j).isSome = true → a.wr i j = none := fun i j hs => by
  rw [put_wr _ _ _ _ hn.1, saw_wr] at hs
  unfold updV at hs
  by_cases e : i = k ∧ j = n
  · obtain ⟨rfl, rfl⟩ := e; exact hn.2
  · rw [if_neg e] at hs; exact h i j hs
theorem put_base (st : VSt) (k n : Int) (x : Val) : (st.put k n x).base = st.base := by unfold VSt.put; split <;> rfl
theorem saw_base (st : VSt) (k n : Int) : (st.saw k n).base = st.base := by unfold VSt.saw; split <;> rfl
set_option maxRecDepth 100000 in
set_option maxHeartbeats 4000000 in
theorem storeApart_walk (a0 : Option Addr) (len0 cap0 : Nat) (z0 : Nat → AskV) (a1 : Option Addr) (len1 cap1 : Nat) (z1 : Nat → AskV) (a2 : Option Addr) (len2 cap2 : Nat) (z2 : Nat → AskV) (a3 : Option Addr) (len3 cap3 : Nat) (w : World) (w0 : IsAsks w a0 len0 cap0 z0) (w1 : IsAsks w a1 len1 cap1 z1) (w2 : IsAsks w a2 len2 cap2 z2) (w3 : IsMix [.bool] w a3 len3 cap3) :
    Calls Try.prog 11 #[.slice a0 len0 cap0, .slice a1 len1 cap1, .slice a2 len2 cap2, .slice a3 len3 cap3] w fun e w' => e = .returned (.bool true) ∧ Below w.heap.size w w' := by
  have hz := zero_val
  have A0 := w0.at
  have A1 := w1.at
  have A2 := w2.at
  have A3 : ∀ j, j < len3 → ∃ x b, a3 = some x ∧ len3 ≤ cap3 ∧ w.cell? (x.add j) = some (.bool b) := fun j hj => by
    rcases w3 with ⟨_, h, _⟩ | ⟨x, rfl, hl, _, hx⟩
    · omega
    · obtain ⟨v, hv, b, rfl⟩ := hx j hj 0 .bool rfl
      exact ⟨x, b, rfl, hl, by simpa using hv⟩
  clear w0 w1 w2 w3
  go_enter Try.func11, Try.ntmps11
  go_wp2_with fail
  refine (new_any _).mono ?_; rintro e w1 ⟨s, l, rfl, hS, t1, gs, gl⟩
  have hsl : s ≠ l := by
    obtain ⟨_, _, q1⟩ := hS.cs
    obtain ⟨_, q2, _⟩ := hS.cl
    intro q; rw [q, q2] at q1; injection q1 with q1; injection q1 with _ q1; cases q1
  generalize hb0 : (fun _ => Val.zero) = b0 at *
  clear hb0
  go_upto_region 4 with fail
  iterate 7 (first | go_step | go_upon | go_back | go_simp)
  go_cut [10] from 29 to 50 (fun _ wx => (∃ base, StoreAt wx s l base) ∧ Below w.heap.size w wx)
  case first =>
    --(a
    go_wp2_with fail
    go_loopw [10] (fun i wr => ∃ j : Nat, j ≤ len0 ∧ i = .int .i64 (j : Int) ∧ (∃ base, StoreAt wr s l base) ∧ Below w.heap.size w wr) (fun i _ => len0 - (intOf i).toNat)
    case atStart => exact ⟨0, by omega, rfl, ⟨_, hS⟩, t1⟩
    case round =>
      clear hS t1
      obtain ⟨j, hj, rfl, ⟨base, hSj⟩, hbj⟩ := hrel
      have j0 : (0 : Int) ≤ (j : Int) := by omega
      by_cases hlt : j < len0
      · have l1 : (j : Int) < (len0 : Int) := by omega
        by_cases h20 : (j : Int) < 20
        · obtain ⟨x, rfl, hc, hq⟩ := A0 j hlt
          have hqb := ask_lt hq
          have hqj := ask_below hq hbj hqb
          clear A0 A1 A2 A3 hq
          go_upto_region 7 with fail
          have S0 : Ap7 w s l (x.add (j * 20)) (z0 j) wr.drew := ap7_below ⟨hqj, ⟨base, hSj⟩, hbj⟩ (below_drewN (Below.refl _ _) 1)
          clear hqj hSj hbj
          have hl7 : l ≠ (x.add (j * 20)).block := by omega
          have HPUT := Lib.hid (fun base W (h : StoreAt W s l base) => sput_any s l base (z0 j).k (z0 j).n (z0 j).v hsl W h)
          refine wp_region_held_drew (S := Ap7 w s l (x.add (j * 20)) (z0 j)) (by kernel_rfl) S0 (fun hHeld => ?_)
          clear S0
          generalize z0 j = q at *
          refine reg_take (i := 0) (v := ?_) rfl rfl (by kernel_rfl) (by kernel_rfl) (by kernel_rfl) (fun _ _ _ h => h) (by assumption) (by rfl) ?_ ?_
          rotate_left 1
          · (intro w hSw; (try dsimp only at hSw); go_simp; try with_reducible rfl)
          try simp only [List.setIfInBounds_toArray, List.set_cons_zero, List.set_cons_succ]
          refine reg_take (i := 1) (v := ?_) rfl rfl (by kernel_rfl) (by kernel_rfl) (by kernel_rfl) (fun _ _ _ h => h) (by assumption) (by rfl) ?_ ?_
          rotate_left 1
          · (intro w hSw; (try dsimp only at hSw); go_simp; try with_reducible rfl)
          try simp only [List.setIfInBounds_toArray, List.set_cons_zero, List.set_cons_succ]
          refine reg_take (i := 2) (v := ?_) rfl rfl (by kernel_rfl) (by kernel_rfl) (by kernel_rfl) (fun _ _ _ h => h) (by assumption) (by rfl) ?_ ?_
          rotate_left 1
          · (intro w hSw; (try dsimp only at hSw); go_simp; try with_reducible rfl)
          try simp only [List.setIfInBounds_toArray, List.set_cons_zero, List.set_cons_succ]
          refine reg_take (i := 3) (v := ?_) rfl rfl (by kernel_rfl) (by kernel_rfl) (by kernel_rfl) (fun _ _ _ h => h) (by assumption) (by rfl) ?_ ?_
          rotate_left 1
          · (intro w hSw; (try dsimp only at hSw); go_simp; try with_reducible rfl)
          try simp only [List.setIfInBounds_toArray, List.set_cons_zero, List.set_cons_succ]
          refine reg_take (i := 4) (v := ?_) rfl rfl (by kernel_rfl) (by kernel_rfl) (by kernel_rfl) (fun _ _ _ h => h) (by assumption) (by rfl) ?_ ?_
          rotate_left 1
          · (intro w hSw; (try dsimp only at hSw); go_simp; try with_reducible rfl)
          try simp only [List.setIfInBounds_toArray, List.set_cons_zero, List.set_cons_succ]
          refine reg_take (i := 5) (v := ?_) rfl rfl (by kernel_rfl) (by kernel_rfl) (by kernel_rfl) (fun _ _ _ h => h) (by assumption) (by rfl) ?_ ?_
          rotate_left 1
          · (intro w hSw; (try dsimp only at hSw); go_simp; try with_reducible rfl)
          try simp only [List.setIfInBounds_toArray, List.set_cons_zero, List.set_cons_succ]
          refine reg_take (i := 6) (v := ?_) rfl rfl (by kernel_rfl) (by kernel_rfl) (by kernel_rfl) (fun _ _ _ h => h) (by assumption) (by rfl) ?_ ?_
          rotate_left 1
          · (intro w hSw; (try dsimp only at hSw); go_simp; try with_reducible rfl)
          try simp only [List.setIfInBounds_toArray, List.set_cons_zero, List.set_cons_succ]
          refine reg_take (i := 7) (v := ?_) rfl rfl (by kernel_rfl) (by kernel_rfl) (by kernel_rfl) (fun _ _ _ h => h) (by assumption) (by rfl) ?_ ?_
          rotate_left 1
          · (intro w hSw; (try dsimp only at hSw); go_simp; try with_reducible rfl)
          try simp only [List.setIfInBounds_toArray, List.set_cons_zero, List.set_cons_succ]
          refine reg_take (i := 8) (v := ?_) rfl rfl (by kernel_rfl) (by kernel_rfl) (by kernel_rfl) (fun _ _ _ h => h) (by assumption) (by rfl) ?_ ?_
          rotate_left 1
          · (intro w hSw; (try dsimp only at hSw); go_simp; try with_reducible rfl)
          try simp only [List.setIfInBounds_toArray, List.set_cons_zero, List.set_cons_succ]
          refine reg_take (i := 9) (v := ?_) rfl rfl (by kernel_rfl) (by kernel_rfl) (by kernel_rfl) (fun _ _ _ h => h) (by assumption) (by rfl) ?_ ?_
          rotate_left 1
          · (intro w hSw; (try dsimp only at hSw); go_simp; try with_reducible rfl)
          try simp only [List.setIfInBounds_toArray, List.set_cons_zero, List.set_cons_succ]
          refine reg_take (i := 10) (v := (.agg q.v.cells)) rfl rfl (by kernel_rfl) (by kernel_rfl) (by kernel_rfl) (fun _ _ _ h => h) (by assumption) (by rfl) (fun W hW => run_loadV_range W _ _ _ hW.1.2.2.2) ?_
          try simp only [List.setIfInBounds_toArray, List.set_cons_zero, List.set_cons_succ]
          refine reg_step (i := 11) (by kernel_rfl) rfl (by rfl) (fun KC hKC => ?_)
          go_simp
          obtain ⟨base1, hS1⟩ := hHeld.2.1
          refine (HPUT.out base1 _ hS1).mono ?_; rintro e w5 ⟨rfl, hS5, T5⟩
          have s5 : Ap7 w s l (x.add (j * 20)) q w5 := ⟨ask_turn hHeld.1 T5 (fun p => hl7 p.symm), ⟨_, hS5⟩, hHeld.2.2.trans (T5.below (B := w.heap.size) hHeld.2.2.size (fun i p => by have : i = l := p; omega))⟩
          clear hHeld T5 hS5 hS1
          refine hKC.out _ _ ?_ (fun hHeld => ?_)
          · exact s5
          clear hKC KC HPUT
          refine wpAnyH_done (by kernel_rfl) ?_ _
          clear hHeld
          obtain ⟨_, hS6, hb6⟩ := s5
          go_wp2_with fail
          exact ⟨⟨j + 1, by omega, by go_num, hS6, hb6⟩, by simp [intOf]; omega⟩
        · go_wp2_with fail
          go_meet
          case rel => exact ⟨⟨_, hSj⟩, hbj⟩
      · have l1 : ¬ (j : Int) < (len0 : Int) := by omega
        go_wp2_with fail
        go_meet
        case rel => exact ⟨⟨_, hSj⟩, hbj⟩
    --)a
  case rest =>
    obtain ⟨⟨base, hS1⟩, hb1⟩ := hcut
    clear hS t1 A0
    have hB1 := hb1.size
    have hls1 := hS1.lts
    have hll1 : l < wc.heap.size := by obtain ⟨_, q2, _⟩ := hS1.cl; exact lt_of_heap q2
    go_wp2_with fail
    refine (look_any s l base _ hS1).mono ?_; rintro e w2 ⟨L, hLs, hLl, rfl, hV2, t2, gv, gr, gm⟩
    have hS2 := hS1.keep (Turn.of_below t2 (fun _ => False)) id id
    have hb2 := hb1.trans (t2.mono hb1.size)
    have hV2l := hV2.lts
    clear hS1 t2 hb1
    go_wp2_with fail
    refine (look_any s l base _ hS2).mono ?_; rintro e w3 ⟨M, hMs, hMl, rfl, hV3, t3, gv3, gr3, gm3⟩
    have H : Ap w s l L M (VSt.fresh base) (VSt.fresh base) w3 := ⟨hV2.below t3, hV3, hb2.trans (t3.mono hb2.size)⟩
    have F : ApF w L M := by
      have h1 := hV2.ne
      have h2 := hV3.ne
      refine ⟨by omega, by omega, by omega, by omega, by omega⟩
    clear hS2 t3 hb2 hV2 hV3
    go_upto_region 11 with fail
    iterate 7 (first | go_step | go_upon | go_back | go_simp)
    go_cut [13] from 61 to 89 (fun _ wx => ∃ a, a.base = base ∧ VOk a ∧ Ap w s l L M a (VSt.fresh base) wx)
    case first =>
      --(b
      go_wp2_with fail
      go_loopw [13] (fun i wr => ∃ j : Nat, j ≤ len1 ∧ i = .int .i64 (j : Int) ∧ ∃ a, a.base = base ∧ VOk a ∧ Ap w s l L M a (VSt.fresh base) wr) (fun i _ => len1 - (intOf i).toNat)
      case atStart => exact ⟨0, by omega, rfl, _, rfl, VOk.fresh base, H⟩
      case round =>
        clear H
        obtain ⟨j, hj, rfl, a, hab, ok, H⟩ := hrel
        have j0 : (0 : Int) ≤ (j : Int) := by omega
        by_cases hlt : j < len1
        · have l1 : (j : Int) < (len1 : Int) := by omega
          by_cases h20 : (j : Int) < 12
          · obtain ⟨x, rfl, hc, hq⟩ := A1 j hlt
            have hqb := ask_lt hq
            have hqj := ask_below hq H.b hqb
            clear A1 A2 A3 hq
            have hlo := F.lo
            generalize z1 j = q at *
            obtain ⟨y0, y1, y2, y3⟩ := hqj
            go_wp2_with fail
            refine (vget_any L a q.k q.n _ H.x).mono ?_; rintro e w4 ⟨rfl, hV4, T4⟩
            have hq4 : AskAt w4 (x.add (j * 20)) q := ask_turn ⟨y0, y1, y2, y3⟩ T4 (show ¬ (x.add (j * 20)).block = L.r by omega)
            have H4 := H.left F hV4 T4 (fun i e => Or.inl e)
            clear H hV4 T4 y0 y1 y2 y3
            go_upto_region 15 with fail
            have b5 : Below w4.heap.size w4 w4.drew := below_drewN (Below.refl _ w4) 1
            have S0 : AskAt w4.drew (x.add (j * 20)) q := ask_below hq4 b5 (ask_lt hq4)
            have H5 := H4.below b5
            clear b5 hq4 H4
            refine wp_region_held_drew (S := fun W => AskAt W (x.add (j * 20)) q) (by kernel_rfl) S0 (fun hHeld => ?_)
            clear S0
            refine reg_take (i := 0) (v := ?_) rfl rfl (by kernel_rfl) (by kernel_rfl) (by kernel_rfl) (fun _ _ _ h => h) (by assumption) (by rfl) ?_ ?_
            rotate_left 1
            · (intro w hSw; (try dsimp only at hSw); go_simp; try with_reducible rfl)
            try simp only [List.setIfInBounds_toArray, List.set_cons_zero, List.set_cons_succ]
            refine reg_take (i := 1) (v := ?_) rfl rfl (by kernel_rfl) (by kernel_rfl) (by kernel_rfl) (fun _ _ _ h => h) (by assumption) (by rfl) ?_ ?_
            rotate_left 1
            · (intro w hSw; (try dsimp only at hSw); go_simp; try with_reducible rfl)
            try simp only [List.setIfInBounds_toArray, List.set_cons_zero, List.set_cons_succ]
            refine reg_take (i := 2) (v := ?_) rfl rfl (by kernel_rfl) (by kernel_rfl) (by kernel_rfl) (fun _ _ _ h => h) (by assumption) (by rfl) ?_ ?_
            rotate_left 1
            · (intro w hSw; (try dsimp only at hSw); go_simp; try with_reducible rfl)
            try simp only [List.setIfInBounds_toArray, List.set_cons_zero, List.set_cons_succ]
            refine reg_take (i := 3) (v := ?_) rfl rfl (by kernel_rfl) (by kernel_rfl) (by kernel_rfl) (fun _ _ _ h => h) (by assumption) (by rfl) ?_ ?_
            rotate_left 1
            · (intro w hSw; (try dsimp only at hSw); go_simp; try with_reducible rfl)
            try simp only [List.setIfInBounds_toArray, List.set_cons_zero, List.set_cons_succ]
            refine reg_take (i := 4) (v := ?_) rfl rfl (by kernel_rfl) (by kernel_rfl) (by kernel_rfl) (fun _ _ _ h => h) (by assumption) (by rfl) ?_ ?_
            rotate_left 1
            · (intro w hSw; (try dsimp only at hSw); go_simp; try with_reducible rfl)
            try simp only [List.setIfInBounds_toArray, List.set_cons_zero, List.set_cons_succ]
            refine reg_take (i := 5) (v := ?_) rfl rfl (by kernel_rfl) (by kernel_rfl) (by kernel_rfl) (fun _ _ _ h => h) (by assumption) (by rfl) ?_ ?_
            rotate_left 1
            · (intro w hSw; (try dsimp only at hSw); go_simp; try with_reducible rfl)
            try simp only [List.setIfInBounds_toArray, List.set_cons_zero, List.set_cons_succ]
            refine reg_take (i := 6) (v := ?_) rfl rfl (by kernel_rfl) (by kernel_rfl) (by kernel_rfl) (fun _ _ _ h => h) (by assumption) (by rfl) ?_ ?_
            rotate_left 1
            · (intro w hSw; (try dsimp only at hSw); go_simp; try with_reducible rfl)
            try simp only [List.setIfInBounds_toArray, List.set_cons_zero, List.set_cons_succ]
            refine reg_take (i := 7) (v := ?_) rfl rfl (by kernel_rfl) (by kernel_rfl) (by kernel_rfl) (fun _ _ _ h => h) (by assumption) (by rfl) ?_ ?_
            rotate_left 1
            · (intro w hSw; (try dsimp only at hSw); go_simp; try with_reducible rfl)
            try simp only [List.setIfInBounds_toArray, List.set_cons_zero, List.set_cons_succ]
            refine reg_take (i := 8) (v := ?_) rfl rfl (by kernel_rfl) (by kernel_rfl) (by kernel_rfl) (fun _ _ _ h => h) (by assumption) (by rfl) ?_ ?_
            rotate_left 1
            · (intro w hSw; (try dsimp only at hSw); go_simp; try with_reducible rfl)
            try simp only [List.setIfInBounds_toArray, List.set_cons_zero, List.set_cons_succ]
            refine reg_take (i := 9) (v := ?_) rfl rfl (by kernel_rfl) (by kernel_rfl) (by kernel_rfl) (fun _ _ _ h => h) (by assumption) (by rfl) ?_ ?_
            rotate_left 1
            · (intro w hSw; (try dsimp only at hSw); go_simp; try with_reducible rfl)
            try simp only [List.setIfInBounds_toArray, List.set_cons_zero, List.set_cons_succ]
            refine reg_take (i := 10) (v := (.agg q.v.cells)) rfl rfl (by kernel_rfl) (by kernel_rfl) (by kernel_rfl) (fun _ _ _ h => h) (by assumption) (by rfl) (fun W hW => run_loadV_range W _ _ _ hW.2.2.2) ?_
            try simp only [List.setIfInBounds_toArray, List.set_cons_zero, List.set_cons_succ]
            refine reg_step (i := 11) (by kernel_rfl) rfl (by rfl) (fun KC hKC => ?_)
            go_simp
            refine (vput_any L _ q.k q.n q.v _ H5.x).mono ?_; rintro e w6 ⟨rfl, hV6, T6⟩
            have s6 := ask_turn hHeld T6 (show ¬ (x.add (j * 20)).block = L.m by omega)
            have H6 := H5.left F hV6 T6 (fun i e => Or.inr e)
            clear hHeld hV6 T6 H5
            refine hKC.out _ _ ?_ (fun hHeld => ?_)
            · exact s6
            clear hKC KC
            refine wpAnyH_done (by kernel_rfl) ?_ _
            clear hHeld s6
            go_wp2_with fail
            exact ⟨⟨j + 1, by omega, by go_num, _, by rw [put_base, saw_base]; exact hab, (ok.saw _ _).put _ _ _, H6⟩, by simp [intOf]; omega⟩
          · go_wp2_with fail
            go_meet
            case rel => exact ⟨a, hab, ok, H⟩
        · have l1 : ¬ (j : Int) < (len1 : Int) := by omega
          go_wp2_with fail
          go_meet
          case rel => exact ⟨a, hab, ok, H⟩
      --)b
    case rest =>
      clear H A1
      obtain ⟨a, hab, oka, H⟩ := hcut
      go_upto_region 16 with fail
      iterate 7 (first | go_step | go_upon | go_back | go_simp)
      go_cut [14] from 90 to 128 (fun _ wx => ∃ b, b.base = base ∧ VOk b ∧ (∀ k n, (b.wr k n).isSome = true → a.wr k n = none) ∧ Ap w s l L M a b wx)
      case first =>
        --(c
        go_wp2_with fail
        go_loopw [14] (fun i wr => ∃ j : Nat, j ≤ len2 ∧ i = .int .i64 (j : Int) ∧ ∃ b, b.base = base ∧ VOk b ∧ (∀ k n, (b.wr k n).isSome = true → a.wr k n = none) ∧ Ap w s l L M a b wr) (fun i _ => len2 - (intOf i).toNat)
        case atStart => exact ⟨0, by omega, rfl, _, rfl, VOk.fresh base, (fun k n h => by cases h), H⟩
        case round =>
          clear H
          obtain ⟨j, hj, rfl, b, hbb, ok, D, H⟩ := hrel
          have HD := Lib.hid D
          clear D
          have j0 : (0 : Int) ≤ (j : Int) := by omega
          by_cases hlt : j < len2
          · have l1 : (j : Int) < (len2 : Int) := by omega
            by_cases h20 : (j : Int) < 12
            · obtain ⟨x, rfl, hc, hq⟩ := A2 j hlt
              have hqb := ask_lt hq
              have hqj := ask_below hq H.b hqb
              clear A2 A3 hq
              have hlo := F.lo
              generalize z2 j = q at *
              go_upto_region 19 with fail
              have b4 : Below wr.heap.size wr wr.drew := below_drewN (Below.refl _ wr) 1
              have S0 : AskAt wr.drew (x.add (j * 20)) q := ask_below hqj b4 (ask_lt hqj)
              have H4 := H.below b4
              clear b4 hqj H
              refine wp_region_held_drew (S := fun W => AskAt W (x.add (j * 20)) q) (by kernel_rfl) S0 (fun hHeld => ?_)
              clear S0
              generalize wr.drew = w4 at *
              refine reg_take (i := 0) (v := ?_) rfl rfl (by kernel_rfl) (by kernel_rfl) (by kernel_rfl) (fun _ _ _ h => h) (by assumption) (by rfl) ?_ ?_
              rotate_left 1
              · (intro w hSw; (try dsimp only at hSw); go_simp; try with_reducible rfl)
              try simp only [List.setIfInBounds_toArray, List.set_cons_zero, List.set_cons_succ]
              refine reg_take (i := 1) (v := ?_) rfl rfl (by kernel_rfl) (by kernel_rfl) (by kernel_rfl) (fun _ _ _ h => h) (by assumption) (by rfl) ?_ ?_
              rotate_left 1
              · (intro w hSw; (try dsimp only at hSw); go_simp; try with_reducible rfl)
              try simp only [List.setIfInBounds_toArray, List.set_cons_zero, List.set_cons_succ]
              refine reg_take (i := 2) (v := ?_) rfl rfl (by kernel_rfl) (by kernel_rfl) (by kernel_rfl) (fun _ _ _ h => h) (by assumption) (by rfl) ?_ ?_
              rotate_left 1
              · (intro w hSw; (try dsimp only at hSw); go_simp; try with_reducible rfl)
              try simp only [List.setIfInBounds_toArray, List.set_cons_zero, List.set_cons_succ]
              refine reg_take (i := 3) (v := ?_) rfl rfl (by kernel_rfl) (by kernel_rfl) (by kernel_rfl) (fun _ _ _ h => h) (by assumption) (by rfl) ?_ ?_
              rotate_left 1
              · (intro w hSw; (try dsimp only at hSw); go_simp; try with_reducible rfl)
              try simp only [List.setIfInBounds_toArray, List.set_cons_zero, List.set_cons_succ]
              refine reg_take (i := 4) (v := ?_) rfl rfl (by kernel_rfl) (by kernel_rfl) (by kernel_rfl) (fun _ _ _ h => h) (by assumption) (by rfl) ?_ ?_
              rotate_left 1
              · (intro w hSw; (try dsimp only at hSw); go_simp; try with_reducible rfl)
              try simp only [List.setIfInBounds_toArray, List.set_cons_zero, List.set_cons_succ]
              refine reg_take (i := 6) (v := ?_) rfl rfl (by kernel_rfl) (by kernel_rfl) (by kernel_rfl) (fun _ _ _ h => h) (by assumption) (by rfl) ?_ ?_
              rotate_left 1
              · (intro w hSw; (try dsimp only at hSw); go_simp; try with_reducible rfl)
              try simp only [List.setIfInBounds_toArray, List.set_cons_zero, List.set_cons_succ]
              refine reg_two (i := 5) (j := 7) (by kernel_rfl) rfl rfl (by rfl) (by rfl) (fun KC hKC => ?_) (fun KC hKC => ?_)
              rotate_left 1
              · go_simp
                refine (vfoot_any L a _ H4.x oka).mono ?_; rintro e w5 ⟨v, rfl, hkl, t5⟩
                have s5 := ask_below hHeld t5 (ask_lt hHeld)
                have H5 := H4.below t5
                obtain ⟨ar, cr, rfl, hk5, _, _⟩ := hkl.kr
                clear H4 t5 hHeld hkl
                refine hKC.out _ _ ?_ (fun hHeld => ?_)
                · exact s5
                clear hKC KC
                have bD : Below w5.heap.size w5 (w5.alloc (.cells #[.int .i64 q.k, .int .i64 q.n] 23)) := (Below.refl _ _).alloc (Nat.le_refl _) _
                have s6 := ask_below s5 bD (ask_lt s5)
                have H6 := H5.below bD
                have hk6 := hk5.below bD
                have hg6 : KR (w5.alloc (.cells #[.int .i64 q.k, .int .i64 q.n] 23)) (some ⟨w5.heap.size, 0, none⟩) 1 (fun _ => (q.k, q.n)) := kr_one (cell_of_row _ _ 0 _ _ _ (heap_alloc_new _ _)) (cell_of_row _ _ 1 _ _ _ (heap_alloc_new _ _))
                refine reg_run (i := 5) (v := .slice (some ⟨w5.heap.size, 0, none⟩) 1 1) (w' := w5.alloc (.cells #[.int .i64 q.k, .int .i64 q.n] 23)) (by kernel_rfl) rfl rfl (by rfl) (by kernel_rfl) s6 (fun hHeld => ?_)
                try simp only [List.setIfInBounds_toArray, List.set_cons_zero, List.set_cons_succ]
                clear s5 H5 hk5 bD hHeld
                generalize w5.alloc (.cells #[.int .i64 q.k, .int .i64 q.n] 23) = w6 at *
                generalize w5.heap.size = G at *
                refine reg_step (i := 8) (by kernel_rfl) rfl (by rfl) (fun KC hKC => ?_)
                go_simp
                refine (kwithin_any (some ⟨G, 0, none⟩) ar 1 (ftP a).length cr 1 (fun _ => (q.k, q.n)) (sk (ftP a)) w6 (by decide) (by have := ft_len a; omega) hg6 hk6).mono ?_; rintro e w7 ⟨r, rfl, hr, t7⟩
                have s7 := ask_below s6 t7 (ask_lt s6)
                have H7 := H6.below t7
                have HR := Lib.hid hr
                clear H6 t7 s6 hg6 hk6 hr
                refine hKC.out _ _ ?_ (fun hHeld => ?_)
                · exact s7
                clear hKC KC
                refine reg_take (i := 9) (v := ?_) rfl rfl (by kernel_rfl) (by kernel_rfl) (by kernel_rfl) (fun _ _ _ h => h) (by assumption) (by rfl) ?_ ?_
                rotate_left 1
                · (intro w hSw; (try dsimp only at hSw); go_simp; try with_reducible rfl)
                try simp only [List.setIfInBounds_toArray, List.set_cons_zero, List.set_cons_succ]
                refine wpAnyH_done (by kernel_rfl) ?_ _
                clear hHeld
                cases r with
                | true =>
                  go_wp2_with fail
                  exact ⟨⟨j + 1, by omega, by go_num, b, hbb, ok, HD.out, H7⟩, by simp [intOf]; omega⟩
                | false =>
                  have hnw := not_within (st := a) (k := q.k) (n := q.n) (fun c => by have := HR.out.2 c; cases this)
                  have HN := Lib.hid hnw
                  clear hnw HR
                  obtain ⟨y0, y1, y2, y3⟩ := s7
                  go_wp2_with fail
                  refine (vget_any M b q.k q.n _ H7.y).mono ?_; rintro e w8 ⟨rfl, hV8, T8⟩
                  have hq8 : AskAt w8 (x.add (j * 20)) q := ask_turn ⟨y0, y1, y2, y3⟩ T8 (show ¬ (x.add (j * 20)).block = M.r by omega)
                  have H8 := H7.right F hV8 T8 (fun i e => Or.inl e)
                  clear H7 hV8 T8 y0 y1 y2 y3
                  go_upto_region 21 with fail
                  have b9 : Below w8.heap.size w8 w8.drew := below_drewN (Below.refl _ w8) 1
                  have S0 : AskAt w8.drew (x.add (j * 20)) q := ask_below hq8 b9 (ask_lt hq8)
                  have H9 := H8.below b9
                  clear b9 hq8 H8
                  refine wp_region_held_drew (S := fun W => AskAt W (x.add (j * 20)) q) (by kernel_rfl) S0 (fun hHeld => ?_)
                  clear S0
                  refine reg_take (i := 0) (v := ?_) rfl rfl (by kernel_rfl) (by kernel_rfl) (by kernel_rfl) (fun _ _ _ h => h) (by assumption) (by rfl) ?_ ?_
                  rotate_left 1
                  · (intro w hSw; (try dsimp only at hSw); go_simp; try with_reducible rfl)
                  try simp only [List.setIfInBounds_toArray, List.set_cons_zero, List.set_cons_succ]
                  refine reg_take (i := 1) (v := ?_) rfl rfl (by kernel_rfl) (by kernel_rfl) (by kernel_rfl) (fun _ _ _ h => h) (by assumption) (by rfl) ?_ ?_
                  rotate_left 1
                  · (intro w hSw; (try dsimp only at hSw); go_simp; try with_reducible rfl)
                  try simp only [List.setIfInBounds_toArray, List.set_cons_zero, List.set_cons_succ]
                  refine reg_take (i := 2) (v := ?_) rfl rfl (by kernel_rfl) (by kernel_rfl) (by kernel_rfl) (fun _ _ _ h => h) (by assumption) (by rfl) ?_ ?_
                  rotate_left 1
                  · (intro w hSw; (try dsimp only at hSw); go_simp; try with_reducible rfl)
                  try simp only [List.setIfInBounds_toArray, List.set_cons_zero, List.set_cons_succ]
                  refine reg_take (i := 3) (v := ?_) rfl rfl (by kernel_rfl) (by kernel_rfl) (by kernel_rfl) (fun _ _ _ h => h) (by assumption) (by rfl) ?_ ?_
                  rotate_left 1
                  · (intro w hSw; (try dsimp only at hSw); go_simp; try with_reducible rfl)
                  try simp only [List.setIfInBounds_toArray, List.set_cons_zero, List.set_cons_succ]
                  refine reg_take (i := 4) (v := ?_) rfl rfl (by kernel_rfl) (by kernel_rfl) (by kernel_rfl) (fun _ _ _ h => h) (by assumption) (by rfl) ?_ ?_
                  rotate_left 1
                  · (intro w hSw; (try dsimp only at hSw); go_simp; try with_reducible rfl)
                  try simp only [List.setIfInBounds_toArray, List.set_cons_zero, List.set_cons_succ]
                  refine reg_take (i := 5) (v := ?_) rfl rfl (by kernel_rfl) (by kernel_rfl) (by kernel_rfl) (fun _ _ _ h => h) (by assumption) (by rfl) ?_ ?_
                  rotate_left 1
                  · (intro w hSw; (try dsimp only at hSw); go_simp; try with_reducible rfl)
                  try simp only [List.setIfInBounds_toArray, List.set_cons_zero, List.set_cons_succ]
                  refine reg_take (i := 6) (v := ?_) rfl rfl (by kernel_rfl) (by kernel_rfl) (by kernel_rfl) (fun _ _ _ h => h) (by assumption) (by rfl) ?_ ?_
                  rotate_left 1
                  · (intro w hSw; (try dsimp only at hSw); go_simp; try with_reducible rfl)
                  try simp only [List.setIfInBounds_toArray, List.set_cons_zero, List.set_cons_succ]
                  refine reg_take (i := 7) (v := ?_) rfl rfl (by kernel_rfl) (by kernel_rfl) (by kernel_rfl) (fun _ _ _ h => h) (by assumption) (by rfl) ?_ ?_
                  rotate_left 1
                  · (intro w hSw; (try dsimp only at hSw); go_simp; try with_reducible rfl)
                  try simp only [List.setIfInBounds_toArray, List.set_cons_zero, List.set_cons_succ]
                  refine reg_take (i := 8) (v := ?_) rfl rfl (by kernel_rfl) (by kernel_rfl) (by kernel_rfl) (fun _ _ _ h => h) (by assumption) (by rfl) ?_ ?_
                  rotate_left 1
                  · (intro w hSw; (try dsimp only at hSw); go_simp; try with_reducible rfl)
                  try simp only [List.setIfInBounds_toArray, List.set_cons_zero, List.set_cons_succ]
                  refine reg_take (i := 9) (v := ?_) rfl rfl (by kernel_rfl) (by kernel_rfl) (by kernel_rfl) (fun _ _ _ h => h) (by assumption) (by rfl) ?_ ?_
                  rotate_left 1
                  · (intro w hSw; (try dsimp only at hSw); go_simp; try with_reducible rfl)
                  try simp only [List.setIfInBounds_toArray, List.set_cons_zero, List.set_cons_succ]
                  refine reg_take (i := 10) (v := (.agg q.v.cells)) rfl rfl (by kernel_rfl) (by kernel_rfl) (by kernel_rfl) (fun _ _ _ h => h) (by assumption) (by rfl) (fun W hW => run_loadV_range W _ _ _ hW.2.2.2) ?_
                  try simp only [List.setIfInBounds_toArray, List.set_cons_zero, List.set_cons_succ]
                  refine reg_step (i := 11) (by kernel_rfl) rfl (by rfl) (fun KC hKC => ?_)
                  go_simp
                  refine (vput_any M _ q.k q.n q.v _ H9.y).mono ?_; rintro e w10 ⟨rfl, hV10, T10⟩
                  have s10 := ask_turn hHeld T10 (show ¬ (x.add (j * 20)).block = M.m by omega)
                  have H10 := H9.right F hV10 T10 (fun i e => Or.inr e)
                  clear hHeld hV10 T10 H9
                  refine hKC.out _ _ ?_ (fun hHeld => ?_)
                  · exact s10
                  clear hKC KC
                  refine wpAnyH_done (by kernel_rfl) ?_ _
                  clear hHeld s10
                  go_wp2_with fail
                  exact ⟨⟨j + 1, by omega, by go_num, _, by rw [put_base, saw_base]; exact hbb, (ok.saw _ _).put _ _ _, apart_put HD.out HN.out, H10⟩, by simp [intOf]; omega⟩
              · go_simp
                have bD : Below w4.heap.size w4 (w4.alloc (.cells #[.int .i64 q.k, .int .i64 q.n] 23)) := (Below.refl _ _).alloc (Nat.le_refl _) _
                have s5 := ask_below hHeld bD (ask_lt hHeld)
                have H5 := H4.below bD
                have hg5 : KR (w4.alloc (.cells #[.int .i64 q.k, .int .i64 q.n] 23)) (some ⟨w4.heap.size, 0, none⟩) 1 (fun _ => (q.k, q.n)) := kr_one (cell_of_row _ _ 0 _ _ _ (heap_alloc_new _ _)) (cell_of_row _ _ 1 _ _ _ (heap_alloc_new _ _))
                clear H4 bD hHeld
                generalize w4.alloc (.cells #[.int .i64 q.k, .int .i64 q.n] 23) = w5 at *
                generalize w4.heap.size = G at *
                refine hKC.out _ _ ?_ (fun hHeld => ?_)
                · exact s5
                clear hKC KC
                refine reg_step (i := 7) (by kernel_rfl) rfl (by rfl) (fun KC hKC => ?_)
                go_simp
                refine (vfoot_any L a _ H5.x oka).mono ?_; rintro e w6 ⟨v, rfl, hkl, t6⟩
                have s6 := ask_below s5 t6 (ask_lt s5)
                have H6 := H5.below t6
                have hg6 := hg5.below t6
                obtain ⟨ar, cr, rfl, hk6, _, _⟩ := hkl.kr
                clear H5 t6 hHeld s5 hkl hg5
                refine hKC.out _ _ ?_ (fun hHeld => ?_)
                · exact s6
                clear hKC KC
                refine reg_step (i := 8) (by kernel_rfl) rfl (by rfl) (fun KC hKC => ?_)
                go_simp
                refine (kwithin_any (some ⟨G, 0, none⟩) ar 1 (ftP a).length cr 1 (fun _ => (q.k, q.n)) (sk (ftP a)) w6 (by decide) (by have := ft_len a; omega) hg6 hk6).mono ?_; rintro e w7 ⟨r, rfl, hr, t7⟩
                have s7 := ask_below s6 t7 (ask_lt s6)
                have H7 := H6.below t7
                have HR := Lib.hid hr
                clear H6 t7 s6 hg6 hk6 hr
                refine hKC.out _ _ ?_ (fun hHeld => ?_)
                · exact s7
                clear hKC KC
                refine reg_take (i := 9) (v := ?_) rfl rfl (by kernel_rfl) (by kernel_rfl) (by kernel_rfl) (fun _ _ _ h => h) (by assumption) (by rfl) ?_ ?_
                rotate_left 1
                · (intro w hSw; (try dsimp only at hSw); go_simp; try with_reducible rfl)
                try simp only [List.setIfInBounds_toArray, List.set_cons_zero, List.set_cons_succ]
                refine wpAnyH_done (by kernel_rfl) ?_ _
                clear hHeld
                cases r with
                | true =>
                  go_wp2_with fail
                  exact ⟨⟨j + 1, by omega, by go_num, b, hbb, ok, HD.out, H7⟩, by simp [intOf]; omega⟩
                | false =>
                  have hnw := not_within (st := a) (k := q.k) (n := q.n) (fun c => by have := HR.out.2 c; cases this)
                  have HN := Lib.hid hnw
                  clear hnw HR
                  obtain ⟨y0, y1, y2, y3⟩ := s7
                  go_wp2_with fail
                  refine (vget_any M b q.k q.n _ H7.y).mono ?_; rintro e w8 ⟨rfl, hV8, T8⟩
                  have hq8 : AskAt w8 (x.add (j * 20)) q := ask_turn ⟨y0, y1, y2, y3⟩ T8 (show ¬ (x.add (j * 20)).block = M.r by omega)
                  have H8 := H7.right F hV8 T8 (fun i e => Or.inl e)
                  clear H7 hV8 T8 y0 y1 y2 y3
                  go_upto_region 21 with fail
                  have b9 : Below w8.heap.size w8 w8.drew := below_drewN (Below.refl _ w8) 1
                  have S0 : AskAt w8.drew (x.add (j * 20)) q := ask_below hq8 b9 (ask_lt hq8)
                  have H9 := H8.below b9
                  clear b9 hq8 H8
                  refine wp_region_held_drew (S := fun W => AskAt W (x.add (j * 20)) q) (by kernel_rfl) S0 (fun hHeld => ?_)
                  clear S0
                  refine reg_take (i := 0) (v := ?_) rfl rfl (by kernel_rfl) (by kernel_rfl) (by kernel_rfl) (fun _ _ _ h => h) (by assumption) (by rfl) ?_ ?_
                  rotate_left 1
                  · (intro w hSw; (try dsimp only at hSw); go_simp; try with_reducible rfl)
                  try simp only [List.setIfInBounds_toArray, List.set_cons_zero, List.set_cons_succ]
                  refine reg_take (i := 1) (v := ?_) rfl rfl (by kernel_rfl) (by kernel_rfl) (by kernel_rfl) (fun _ _ _ h => h) (by assumption) (by rfl) ?_ ?_
                  rotate_left 1
                  · (intro w hSw; (try dsimp only at hSw); go_simp; try with_reducible rfl)
                  try simp only [List.setIfInBounds_toArray, List.set_cons_zero, List.set_cons_succ]
                  refine reg_take (i := 2) (v := ?_) rfl rfl (by kernel_rfl) (by kernel_rfl) (by kernel_rfl) (fun _ _ _ h => h) (by assumption) (by rfl) ?_ ?_
                  rotate_left 1
                  · (intro w hSw; (try dsimp only at hSw); go_simp; try with_reducible rfl)
                  try simp only [List.setIfInBounds_toArray, List.set_cons_zero, List.set_cons_succ]
                  refine reg_take (i := 3) (v := ?_) rfl rfl (by kernel_rfl) (by kernel_rfl) (by kernel_rfl) (fun _ _ _ h => h) (by assumption) (by rfl) ?_ ?_
                  rotate_left 1
                  · (intro w hSw; (try dsimp only at hSw); go_simp; try with_reducible rfl)
                  try simp only [List.setIfInBounds_toArray, List.set_cons_zero, List.set_cons_succ]
                  refine reg_take (i := 4) (v := ?_) rfl rfl (by kernel_rfl) (by kernel_rfl) (by kernel_rfl) (fun _ _ _ h => h) (by assumption) (by rfl) ?_ ?_
                  rotate_left 1
                  · (intro w hSw; (try dsimp only at hSw); go_simp; try with_reducible rfl)
                  try simp only [List.setIfInBounds_toArray, List.set_cons_zero, List.set_cons_succ]
                  refine reg_take (i := 5) (v := ?_) rfl rfl (by kernel_rfl) (by kernel_rfl) (by kernel_rfl) (fun _ _ _ h => h) (by assumption) (by rfl) ?_ ?_
                  rotate_left 1
                  · (intro w hSw; (try dsimp only at hSw); go_simp; try with_reducible rfl)
                  try simp only [List.setIfInBounds_toArray, List.set_cons_zero, List.set_cons_succ]
                  refine reg_take (i := 6) (v := ?_) rfl rfl (by kernel_rfl) (by kernel_rfl) (by kernel_rfl) (fun _ _ _ h => h) (by assumption) (by rfl) ?_ ?_
                  rotate_left 1
                  · (intro w hSw; (try dsimp only at hSw); go_simp; try with_reducible rfl)
                  try simp only [List.setIfInBounds_toArray, List.set_cons_zero, List.set_cons_succ]
                  refine reg_take (i := 7) (v := ?_) rfl rfl (by kernel_rfl) (by kernel_rfl) (by kernel_rfl) (fun _ _ _ h => h) (by assumption) (by rfl) ?_ ?_
                  rotate_left 1
                  · (intro w hSw; (try dsimp only at hSw); go_simp; try with_reducible rfl)
                  try simp only [List.setIfInBounds_toArray, List.set_cons_zero, List.set_cons_succ]
                  refine reg_take (i := 8) (v := ?_) rfl rfl (by kernel_rfl) (by kernel_rfl) (by kernel_rfl) (fun _ _ _ h => h) (by assumption) (by rfl) ?_ ?_
                  rotate_left 1
                  · (intro w hSw; (try dsimp only at hSw); go_simp; try with_reducible rfl)
                  try simp only [List.setIfInBounds_toArray, List.set_cons_zero, List.set_cons_succ]
                  refine reg_take (i := 9) (v := ?_) rfl rfl (by kernel_rfl) (by kernel_rfl) (by kernel_rfl) (fun _ _ _ h => h) (by assumption) (by rfl) ?_ ?_
                  rotate_left 1
                  · (intro w hSw; (try dsimp only at hSw); go_simp; try with_reducible rfl)
                  try simp only [List.setIfInBounds_toArray, List.set_cons_zero, List.set_cons_succ]
                  refine reg_take (i := 10) (v := (.agg q.v.cells)) rfl rfl (by kernel_rfl) (by kernel_rfl) (by kernel_rfl) (fun _ _ _ h => h) (by assumption) (by rfl) (fun W hW => run_loadV_range W _ _ _ hW.2.2.2) ?_
                  try simp only [List.setIfInBounds_toArray, List.set_cons_zero, List.set_cons_succ]
                  refine reg_step (i := 11) (by kernel_rfl) rfl (by rfl) (fun KC hKC => ?_)
                  go_simp
                  refine (vput_any M _ q.k q.n q.v _ H9.y).mono ?_; rintro e w10 ⟨rfl, hV10, T10⟩
                  have s10 := ask_turn hHeld T10 (show ¬ (x.add (j * 20)).block = M.m by omega)
                  have H10 := H9.right F hV10 T10 (fun i e => Or.inr e)
                  clear hHeld hV10 T10 H9
                  refine hKC.out _ _ ?_ (fun hHeld => ?_)
                  · exact s10
                  clear hKC KC
                  refine wpAnyH_done (by kernel_rfl) ?_ _
                  clear hHeld s10
                  go_wp2_with fail
                  exact ⟨⟨j + 1, by omega, by go_num, _, by rw [put_base, saw_base]; exact hbb, (ok.saw _ _).put _ _ _, apart_put HD.out HN.out, H10⟩, by simp [intOf]; omega⟩
            · go_wp2_with fail
              go_meet
              case rel => exact ⟨b, hbb, ok, HD.out, H⟩
          · have l1 : ¬ (j : Int) < (len2 : Int) := by omega
            go_wp2_with fail
            go_meet
            case rel => exact ⟨b, hbb, ok, HD.out, H⟩
        --)c
      case rest =>
        clear H A2
        obtain ⟨b, hbb, okb, D, H⟩ := hcut
        have DD := dis_of D
        have HDD := Lib.hid DD
        clear D DD
        go_wp2_with fail
        refine (vredo_any L a _ H.x oka).mono ?_; rintro e w1 ⟨v1, rfl, hp, t1⟩
        have H1 := H.below t1
        clear H t1
        go_wp2_with fail
        refine (vredo_any M b _ H1.y okb).mono ?_; rintro e w2 ⟨v2, rfl, hq, t2⟩
        have H2 := H1.below t2
        have hp2 := hp.below t2
        clear H1 t2 hp
        have hlp := wrL_le a
        have hlq := wrL_le b
        obtain ⟨ap, cp, rfl, _, _⟩ := hp2.form
        obtain ⟨aq, cq, rfl, _, _⟩ := hq.form
        have hSA : StoreAt w2 s l base := by have := H2.x.sa; rw [hab, hLs, hLl] at this; exact this
        have hb2 := H2.b
        have hz2 := hb2.size
        clear H2 oka okb
        generalize wrL a = p at *
        generalize wrL b = q at *
        go_wp2_with fail
        refine (stwin_any s l base _ hSA).mono ?_; rintro e w3 ⟨s1, l1, rfl, hS1, hsl1, gs1, gl1, t3⟩
        have hSA3 := hSA.keep (Turn.of_below t3 (fun _ => False)) id id
        have hp3 := hp2.below t3
        have hq3 := hq.below t3
        have hb3 := hb2.trans (t3.mono hb2.size)
        have hs1 := hS1.lts
        have hl1 : l1 < w3.heap.size := by obtain ⟨_, q2, _⟩ := hS1.cl; exact lt_of_heap q2
        clear hSA t3 hp2 hq hb2
        go_wp2_with fail
        refine (stwin_any s l base _ hSA3).mono ?_; rintro e w4 ⟨s2, l2, rfl, hS2, hsl2, gs2, gl2, t4⟩
        have hS14 := hS1.keep (Turn.of_below t4 (fun _ => False)) id id
        have hp4 := hp3.below t4
        have hq4 := hq3.below t4
        have hb4 := hb3.trans (t4.mono hb3.size)
        have hl2 : l2 < w4.heap.size := by obtain ⟨_, q2, _⟩ := hS2.cl; exact lt_of_heap q2
        have hz3 := hb3.size
        have hz4 := hb4.size
        clear hSA3 t4 hp3 hq3 hb3 hS1
        have hown : WL w4.heap.size (w4.alloc (.cells #[] 53)) (.slice (some ⟨w4.heap.size, 0, none⟩) 0 0) [] := World.ownsRow_made (base := w4.heap.size) (e := 53) (size := 19) w4 #[] 0 (Nat.le_refl _) (by unfold maxLen; omega) rfl
        have b5 : Below w4.heap.size w4 (w4.alloc (.cells #[] 53)) := (Below.refl _ _).alloc (Nat.le_refl _) _
        obtain ⟨v6, w6, run6, o6, b6, _⟩ := wl_append hown b5.size (hp4.below b5) (by simp; omega) 54
        have b6' := b5.trans b6
        rw [List.nil_append] at o6
        obtain ⟨v7, w7, run7, o7, b7, _⟩ := wl_append o6 b6'.size (hq4.below (b6'.mono (Nat.le_refl _))) (by omega) 54
        have b7' := b6'.trans b7
        obtain ⟨a6, c6, rfl, _, _⟩ := o6.form
        obtain ⟨a7, c7, rfl, _, _⟩ := o7.form
        have hlen7 : (p ++ q).length = p.length + q.length := List.length_append
        have hS17 := hS14.keep (Turn.of_below b7' (fun _ => False)) id id
        have hS27 := hS2.keep (Turn.of_below b7' (fun _ => False)) id id
        have hp7 := (hp4.below b7').sw
        have hq7 := (hq4.below b7').sw
        have hb7 := hb4.trans (b7'.mono hb4.size)
        clear hown b5 o6 b6 b6' b7 hS14 hS2 hp4 hq4 hb4
        go_upto_region 26 with fail
        iterate 7 (first | go_step | go_upon | go_back | go_simp)
        refine wpList_run_append rfl _ _ _ rfl rfl rfl run6 ?_
        clear run6
        go_wp2_with (first | (at_builtin; refine wpList_run_append rfl _ _ _ rfl rfl rfl run7 ?_) | fail)
        have hz7 := b7'.size
        clear run7 b7'
        generalize hr : p ++ q = r at *
        go_loopw [149] (fun i wr => ∃ j : Nat, j ≤ r.length ∧ i = .int .i64 (j : Int) ∧ StoreAt wr s1 l1 (putAll base (r.take j)) ∧ StoreAt wr s2 l2 base ∧ SW wr (.slice ap p.length cp) p ∧ SW wr (.slice aq q.length cq) q ∧ WL w4.heap.size wr (.slice a7 r.length c7) r ∧ Below w.heap.size w wr ∧ w4.heap.size ≤ wr.heap.size) (fun i _ => r.length - (intOf i).toNat)
        case atStart => exact ⟨0, by omega, rfl, hS17, hS27, hp7, hq7, o7, hb7, hz7⟩
        case round =>
          clear hS17 hS27 hp7 hq7 o7 hb7 hz7
          obtain ⟨j, hj, rfl, hS1, hS2, hp, hq, hr7, hb, hz⟩ := hrel
          have j0 : (0 : Int) ≤ (j : Int) := by omega
          by_cases hlt : j < r.length
          · --(d
            have lt2 : (j : Int) < (r.length : Int) := by omega
            obtain ⟨g, cur, rfl, hg, y1, y2⟩ := hr7.get j hlt
            have hst := putAll_step base r j hlt
            have HST := Lib.hid hst
            clear hst
            generalize r[j].1.1 = A at *
            generalize r[j].1.2 = C at *
            generalize r[j].2 = X at *
            have hlw := run_loadW_mid wr g (j * 19) cur A C X _ _ y1 y2
            have a1 := add_at_g g (j * 19)
            have hsw : (storeW (.pointer (some ⟨wr.heap.size, 0, none⟩)) (.agg (wcells A C X))).run Try.prog (wr.alloc (Obj.cells zWA 53)) = .ok .skip (wr.alloc (Obj.cells (wcells A C X) 53)) := by
              rw [run_storeW _ _ _ _ _ _ _ (blk_alloc_at wr _ _ rfl) rfl, setRow_alloc_at _ _ _ _ _ rfl]
            go_upto_region 29 with fail
            have bA : Below wr.heap.size wr (wr.alloc (.cells (wcells A C X) 53)) := (Below.refl _ _).alloc (Nat.le_refl _) _
            have kb : blk (wr.alloc (.cells (wcells A C X) 53)) wr.heap.size = some (.cells (wcells A C X) 53 (0, 0)) := heap_alloc_new _ _
            have hS13 := hS1.keep (Turn.of_below bA (fun _ => False)) id id
            have hS23 := hS2.keep (Turn.of_below bA (fun _ => False)) id id
            have hp3 := hp.below bA
            have hq3 := hq.below bA
            have hr3 := hr7.below bA
            have hb3 := hb.trans (bA.mono hb.size)
            have hz3 := bA.size
            clear bA hS1 hS2 hp hq hr7 hb hlw hsw a1 y1
            generalize wr.alloc (.cells (wcells A C X) 53) = W3 at *
            generalize wr.heap.size = K at *
            have q0 : W3.cell? ⟨K, 0, none⟩ = some (.int .i64 A) := cell_of_row W3 K 0 _ _ _ kb
            have q1 : W3.cell? ⟨K, 1, none⟩ = some (.int .i64 C) := cell_of_row W3 K 1 _ _ _ kb
            have hlv := run_loadV_mid W3 K 2 _ X _ _ kb (wcells_ext A C X)
            go_wp2_with fail
            refine (sput_any s1 l1 _ A C X hsl1 _ hS13).mono ?_; rintro e w8 ⟨rfl, hS18, T8⟩
            have hS28 := hS23.keep T8 (fun e => by have : s2 = l1 := e; omega) (fun e => by have : l2 = l1 := e; omega)
            have hp8 := hp3.put hS13 T8
            have hq8 := hq3.put hS13 T8
            have hr8 := hr3.turn T8 (fun i hi (e : i = l1) => by omega)
            have hb8 := hb3.trans (T8.below (B := w.heap.size) hb3.size (fun i (e : i = l1) => by omega))
            have hz8 := T8.size
            clear hS13 hS23 hp3 hq3 hr3 hb3 T8 q0 q1 hlv kb
            go_wp2_with fail
            exact ⟨⟨j + 1, by omega, by go_num, by rw [HST.out]; exact hS18, hS28, hp8, hq8, hr8, hb8, by omega⟩, by simp [intOf]; omega⟩
            --)d
          · have lt2 : ¬ (j : Int) < (r.length : Int) := by omega
            obtain rfl : j = r.length := by omega
            rw [List.take_length] at hS1
            clear hr7
            have H5 : A5 w s1 l1 s2 l2 (putAll base r) (.slice ap p.length cp) (.slice aq q.length cq) p q wr := ⟨hp, hq, hS1, ⟨base, hS2, by rw [hr]⟩, HDD.out, hb⟩
            have hsum : p.length + q.length ≤ 110 := by omega
            clear hp hq hS1 hS2 hb HDD
            generalize putAll base r = T at *
            go_wp2_with fail
            go_loopw [15, 16, 21] (fun pv qv i wr => ∃ (j : Nat) (pl ql : List Wr), i = .int .i64 (j : Int) ∧ j + pl.length + ql.length ≤ 110 ∧ A5 w s1 l1 s2 l2 T pv qv pl ql wr) (fun pv qv _ _ => sLen pv + sLen qv)
            case atStart => exact ⟨0, p, q, rfl, by omega, H5⟩
            case round =>
              --(f
              clear H5 hsum
              obtain ⟨j, pl, ql, rfl, hjn, hp, hq, hS1, ⟨ub, hS2, hT0⟩, hD0, hb⟩ := hrel
              have hT := Lib.hid hT0
              have hD := Lib.hid hD0
              have j0 : (0 : Int) ≤ (j : Int) := by omega
              clear hT0 hD0
              obtain ⟨ap1, cp1, rfl, hcp, _⟩ := id hp
              obtain ⟨aq1, cq1, rfl, hcq, _⟩ := id hq
              by_cases hpos : 0 < pl.length + ql.length
              · have i1 : (0 : Int) < ((pl.length : Int) + (ql.length : Int)) := by omega
                go_upto_region 34 with fail
                go_cut [22] from 168 to 177 (fun sv wx => (∃ b, sv = .bool b) ∧ wx = wr)
                case first =>
                  by_cases hj3 : j < len3
                  · obtain ⟨x, b3, rfl, hc3, hx3⟩ := A3 j hj3
                    have hx4 := (hb.cell (cell_block_lt hx3)).trans hx3
                    have lt3 : (j : Int) < (len3 : Int) := by omega
                    clear A3 hx3
                    go_wp2_with fail
                    go_meet
                    case rel => exact ⟨⟨_, rfl⟩, rfl⟩
                  · have lt3 : ¬ (j : Int) < (len3 : Int) := by omega
                    go_wp2_with fail
                    go_meet
                    case rel => exact ⟨⟨_, rfl⟩, rfl⟩
                case rest =>
                  obtain ⟨⟨sec, rfl⟩, rfl⟩ := hcut
                  clear A3
                  rcases pl with _ | ⟨⟨⟨A, C⟩, X⟩, pl⟩
                  · rcases ql with _ | ⟨⟨⟨A, C⟩, X⟩, ql⟩
                    · exact absurd hpos (by simp)
                    ·
                      obtain ⟨_, _, g, o, cur, rfl, y1, y2⟩ := hq.head
                      --(g0
                      have k1 : ((([] : List Wr).length : Nat) : Int) = 0 := rfl
                      have k2 : decide (0 < (((((A, C), X) :: ql).length : Nat) : Int)) = true := decide_eq_true (by rw [List.length_cons]; omega)
                      have hcell := mid_cell y1 y2
                      obtain ⟨y3, y4, y5⟩ := hcell
                      have ao : (⟨g, o, none⟩ : Addr).add 0 = ⟨g, o, none⟩ := rfl
                      go_upto_region 36 with fail
                      have b2 : Below wc.heap.size wc wc.drew := below_drewN (Below.refl _ wc) 1
                      have S0 : HdAt g o cur A C wc.drew := ⟨y3, y4, y1⟩
                      have hp2 := hp.below b2
                      have hq2 := hq.below b2
                      have hS12 := hS1.keep (Turn.of_below b2 (fun _ => False)) id id
                      have hS22 := hS2.keep (Turn.of_below b2 (fun _ => False)) id id
                      have hb2 := hb.trans (b2.mono hb.size)
                      clear b2 hp hq hS1 hS2 hb y1 y3 y4
                      refine wp_region_held_drew (S := HdAt g o cur A C) (by kernel_rfl) S0 (fun hHeld => ?_)
                      clear S0
                      refine reg_take (i := 0) (v := ?_) rfl rfl (by kernel_rfl) (by kernel_rfl) (by kernel_rfl) (fun _ _ _ h => h) (by assumption) (by rfl) ?_ ?_
                      rotate_left 1
                      · (intro w hSw; (try dsimp only at hSw); go_simp; try with_reducible rfl)
                      try simp only [List.setIfInBounds_toArray, List.set_cons_zero, List.set_cons_succ]
                      refine reg_take (i := 1) (v := ?_) rfl rfl (by kernel_rfl) (by kernel_rfl) (by kernel_rfl) (fun _ _ _ h => h) (by assumption) (by rfl) ?_ ?_
                      rotate_left 1
                      · (intro w hSw; (try dsimp only at hSw); go_simp; try with_reducible rfl)
                      try simp only [List.setIfInBounds_toArray, List.set_cons_zero, List.set_cons_succ]
                      refine reg_take (i := 2) (v := ?_) rfl rfl (by kernel_rfl) (by kernel_rfl) (by kernel_rfl) (fun _ _ _ h => h) (by assumption) (by rfl) ?_ ?_
                      rotate_left 1
                      · (intro w hSw; (try dsimp only at hSw); go_simp; try with_reducible rfl)
                      try simp only [List.setIfInBounds_toArray, List.set_cons_zero, List.set_cons_succ]
                      refine reg_take (i := 3) (v := ?_) rfl rfl (by kernel_rfl) (by kernel_rfl) (by kernel_rfl) (fun _ _ _ h => h) (by assumption) (by rfl) ?_ ?_
                      rotate_left 1
                      · (intro w hSw; (try dsimp only at hSw); go_simp; try with_reducible rfl)
                      try simp only [List.setIfInBounds_toArray, List.set_cons_zero, List.set_cons_succ]
                      refine reg_take (i := 4) (v := ?_) rfl rfl (by kernel_rfl) (by kernel_rfl) (by kernel_rfl) (fun _ _ _ h => h) (by assumption) (by rfl) ?_ ?_
                      rotate_left 1
                      · (intro w hSw; (try dsimp only at hSw); go_simp; try with_reducible rfl)
                      try simp only [List.setIfInBounds_toArray, List.set_cons_zero, List.set_cons_succ]
                      refine reg_take (i := 5) (v := ?_) rfl rfl (by kernel_rfl) (by kernel_rfl) (by kernel_rfl) (fun _ _ _ h => h) (by assumption) (by rfl) ?_ ?_
                      rotate_left 1
                      · (intro w hSw; (try dsimp only at hSw); go_simp; try with_reducible rfl)
                      try simp only [List.setIfInBounds_toArray, List.set_cons_zero, List.set_cons_succ]
                      refine reg_take (i := 6) (v := ?_) rfl rfl (by kernel_rfl) (by kernel_rfl) (by kernel_rfl) (fun _ _ _ h => h) (by assumption) (by rfl) ?_ ?_
                      rotate_left 1
                      · (intro w hSw; (try dsimp only at hSw); go_simp; try with_reducible rfl)
                      try simp only [List.setIfInBounds_toArray, List.set_cons_zero, List.set_cons_succ]
                      refine reg_take (i := 7) (v := ?_) rfl rfl (by kernel_rfl) (by kernel_rfl) (by kernel_rfl) (fun _ _ _ h => h) (by assumption) (by rfl) ?_ ?_
                      rotate_left 1
                      · (intro w hSw; (try dsimp only at hSw); go_simp; try with_reducible rfl)
                      try simp only [List.setIfInBounds_toArray, List.set_cons_zero, List.set_cons_succ]
                      refine reg_take (i := 8) (v := (.agg X.cells)) rfl rfl (by kernel_rfl) (by kernel_rfl) (by kernel_rfl) (fun _ _ _ h => h) (by assumption) (by rfl) (fun W hW => run_loadV_mid W g (o + 2) cur X _ _ hW.2.2 y5) ?_
                      try simp only [List.setIfInBounds_toArray, List.set_cons_zero, List.set_cons_succ]
                      refine reg_step (i := 9) (by kernel_rfl) rfl (by rfl) (fun KC hKC => ?_)
                      go_simp
                      refine (sput_any s2 l2 _ A C X hsl2 _ hS22).mono ?_; rintro e w3 ⟨rfl, hS23, T3⟩
                      have hS13 := hS12.keep T3 (fun e => by have : s1 = l2 := e; omega) (fun e => by have : l1 = l2 := e; omega)
                      have hp3 := hp2.put hS22 T3
                      have hq3 := hq2.put hS22 T3
                      have hb3 := hb2.trans (T3.below (B := w.heap.size) hb2.size (fun i (e : i = l2) => by omega))
                      have s3 := hd_turn hHeld T3 hS22
                      clear hHeld hp2 hq2 hS22 hS12 hb2 T3
                      refine hKC.out _ _ ?_ (fun hHeld => ?_)
                      · exact s3
                      clear hKC KC
                      refine wpAnyH_done (by kernel_rfl) ?_ _
                      clear hHeld s3 y5
                      have hq4 := hq3.tail2
                      have hab2 : putAll (storePut ub A C X) ([] ++ ql) = T := by
                        rw [← hT.out]; exact put_first ub ((A, C), X) [] ql hD.out
                      go_wp2_with fail
                      exact ⟨⟨j + 1, [], ql, by go_num, by omega, hp3, hq4, hS13, ⟨_, hS23, hab2⟩, hD.out.right, hb3⟩, by simp [sLen]⟩
                      --)g0
                  · rcases ql with _ | ⟨y, ql⟩
                    ·
                      obtain ⟨_, _, g, o, cur, rfl, y1, y2⟩ := hp.head
                      cases sec
                      all_goals
                        --(g1
                        have k1 : (((((((A, C), X) :: pl).length : Nat) : Int)) == 0) = false := by rw [List.length_cons]; simp; omega
                        have k2 : decide (0 < ((([] : List Wr).length : Nat) : Int)) = false := rfl
                        have hcell := mid_cell y1 y2
                        obtain ⟨y3, y4, y5⟩ := hcell
                        have ao : (⟨g, o, none⟩ : Addr).add 0 = ⟨g, o, none⟩ := rfl
                        go_upto_region 38 with fail
                        have b2 : Below wc.heap.size wc wc.drew := below_drewN (Below.refl _ wc) 1
                        have S0 : HdAt g o cur A C wc.drew := ⟨y3, y4, y1⟩
                        have hp2 := hp.below b2
                        have hq2 := hq.below b2
                        have hS12 := hS1.keep (Turn.of_below b2 (fun _ => False)) id id
                        have hS22 := hS2.keep (Turn.of_below b2 (fun _ => False)) id id
                        have hb2 := hb.trans (b2.mono hb.size)
                        clear b2 hp hq hS1 hS2 hb y1 y3 y4
                        refine wp_region_held_drew (S := HdAt g o cur A C) (by kernel_rfl) S0 (fun hHeld => ?_)
                        clear S0
                        refine reg_take (i := 0) (v := ?_) rfl rfl (by kernel_rfl) (by kernel_rfl) (by kernel_rfl) (fun _ _ _ h => h) (by assumption) (by rfl) ?_ ?_
                        rotate_left 1
                        · (intro w hSw; (try dsimp only at hSw); go_simp; try with_reducible rfl)
                        try simp only [List.setIfInBounds_toArray, List.set_cons_zero, List.set_cons_succ]
                        refine reg_take (i := 1) (v := ?_) rfl rfl (by kernel_rfl) (by kernel_rfl) (by kernel_rfl) (fun _ _ _ h => h) (by assumption) (by rfl) ?_ ?_
                        rotate_left 1
                        · (intro w hSw; (try dsimp only at hSw); go_simp; try with_reducible rfl)
                        try simp only [List.setIfInBounds_toArray, List.set_cons_zero, List.set_cons_succ]
                        refine reg_take (i := 2) (v := ?_) rfl rfl (by kernel_rfl) (by kernel_rfl) (by kernel_rfl) (fun _ _ _ h => h) (by assumption) (by rfl) ?_ ?_
                        rotate_left 1
                        · (intro w hSw; (try dsimp only at hSw); go_simp; try with_reducible rfl)
                        try simp only [List.setIfInBounds_toArray, List.set_cons_zero, List.set_cons_succ]
                        refine reg_take (i := 3) (v := ?_) rfl rfl (by kernel_rfl) (by kernel_rfl) (by kernel_rfl) (fun _ _ _ h => h) (by assumption) (by rfl) ?_ ?_
                        rotate_left 1
                        · (intro w hSw; (try dsimp only at hSw); go_simp; try with_reducible rfl)
                        try simp only [List.setIfInBounds_toArray, List.set_cons_zero, List.set_cons_succ]
                        refine reg_take (i := 4) (v := ?_) rfl rfl (by kernel_rfl) (by kernel_rfl) (by kernel_rfl) (fun _ _ _ h => h) (by assumption) (by rfl) ?_ ?_
                        rotate_left 1
                        · (intro w hSw; (try dsimp only at hSw); go_simp; try with_reducible rfl)
                        try simp only [List.setIfInBounds_toArray, List.set_cons_zero, List.set_cons_succ]
                        refine reg_take (i := 5) (v := ?_) rfl rfl (by kernel_rfl) (by kernel_rfl) (by kernel_rfl) (fun _ _ _ h => h) (by assumption) (by rfl) ?_ ?_
                        rotate_left 1
                        · (intro w hSw; (try dsimp only at hSw); go_simp; try with_reducible rfl)
                        try simp only [List.setIfInBounds_toArray, List.set_cons_zero, List.set_cons_succ]
                        refine reg_take (i := 6) (v := ?_) rfl rfl (by kernel_rfl) (by kernel_rfl) (by kernel_rfl) (fun _ _ _ h => h) (by assumption) (by rfl) ?_ ?_
                        rotate_left 1
                        · (intro w hSw; (try dsimp only at hSw); go_simp; try with_reducible rfl)
                        try simp only [List.setIfInBounds_toArray, List.set_cons_zero, List.set_cons_succ]
                        refine reg_take (i := 7) (v := ?_) rfl rfl (by kernel_rfl) (by kernel_rfl) (by kernel_rfl) (fun _ _ _ h => h) (by assumption) (by rfl) ?_ ?_
                        rotate_left 1
                        · (intro w hSw; (try dsimp only at hSw); go_simp; try with_reducible rfl)
                        try simp only [List.setIfInBounds_toArray, List.set_cons_zero, List.set_cons_succ]
                        refine reg_take (i := 8) (v := (.agg X.cells)) rfl rfl (by kernel_rfl) (by kernel_rfl) (by kernel_rfl) (fun _ _ _ h => h) (by assumption) (by rfl) (fun W hW => run_loadV_mid W g (o + 2) cur X _ _ hW.2.2 y5) ?_
                        try simp only [List.setIfInBounds_toArray, List.set_cons_zero, List.set_cons_succ]
                        refine reg_step (i := 9) (by kernel_rfl) rfl (by rfl) (fun KC hKC => ?_)
                        go_simp
                        refine (sput_any s2 l2 _ A C X hsl2 _ hS22).mono ?_; rintro e w3 ⟨rfl, hS23, T3⟩
                        have hS13 := hS12.keep T3 (fun e => by have : s1 = l2 := e; omega) (fun e => by have : l1 = l2 := e; omega)
                        have hp3 := hp2.put hS22 T3
                        have hq3 := hq2.put hS22 T3
                        have hb3 := hb2.trans (T3.below (B := w.heap.size) hb2.size (fun i (e : i = l2) => by omega))
                        have s3 := hd_turn hHeld T3 hS22
                        clear hHeld hp2 hq2 hS22 hS12 hb2 T3
                        refine hKC.out _ _ ?_ (fun hHeld => ?_)
                        · exact s3
                        clear hKC KC
                        refine wpAnyH_done (by kernel_rfl) ?_ _
                        clear hHeld s3 y5
                        have hp4 := hp3.tail2
                        have hab2 : putAll (storePut ub A C X) (pl ++ []) = T := hT.out
                        go_wp2_with fail
                        exact ⟨⟨j + 1, pl, [], by go_num, by omega, hp4, hq3, hS13, ⟨_, hS23, hab2⟩, hD.out.left, hb3⟩, by simp [sLen]⟩
                        --)g1
                    · cases sec with
                      | false =>
                        obtain ⟨_, _, g, o, cur, rfl, y1, y2⟩ := hp.head
                        --(g2
                        have k1 : (((((((A, C), X) :: pl).length : Nat) : Int)) == 0) = false := by rw [List.length_cons]; simp; omega
                        have hcell := mid_cell y1 y2
                        obtain ⟨y3, y4, y5⟩ := hcell
                        have ao : (⟨g, o, none⟩ : Addr).add 0 = ⟨g, o, none⟩ := rfl
                        go_upto_region 38 with fail
                        have b2 : Below wc.heap.size wc wc.drew := below_drewN (Below.refl _ wc) 1
                        have S0 : HdAt g o cur A C wc.drew := ⟨y3, y4, y1⟩
                        have hp2 := hp.below b2
                        have hq2 := hq.below b2
                        have hS12 := hS1.keep (Turn.of_below b2 (fun _ => False)) id id
                        have hS22 := hS2.keep (Turn.of_below b2 (fun _ => False)) id id
                        have hb2 := hb.trans (b2.mono hb.size)
                        clear b2 hp hq hS1 hS2 hb y1 y3 y4
                        refine wp_region_held_drew (S := HdAt g o cur A C) (by kernel_rfl) S0 (fun hHeld => ?_)
                        clear S0
                        refine reg_take (i := 0) (v := ?_) rfl rfl (by kernel_rfl) (by kernel_rfl) (by kernel_rfl) (fun _ _ _ h => h) (by assumption) (by rfl) ?_ ?_
                        rotate_left 1
                        · (intro w hSw; (try dsimp only at hSw); go_simp; try with_reducible rfl)
                        try simp only [List.setIfInBounds_toArray, List.set_cons_zero, List.set_cons_succ]
                        refine reg_take (i := 1) (v := ?_) rfl rfl (by kernel_rfl) (by kernel_rfl) (by kernel_rfl) (fun _ _ _ h => h) (by assumption) (by rfl) ?_ ?_
                        rotate_left 1
                        · (intro w hSw; (try dsimp only at hSw); go_simp; try with_reducible rfl)
                        try simp only [List.setIfInBounds_toArray, List.set_cons_zero, List.set_cons_succ]
                        refine reg_take (i := 2) (v := ?_) rfl rfl (by kernel_rfl) (by kernel_rfl) (by kernel_rfl) (fun _ _ _ h => h) (by assumption) (by rfl) ?_ ?_
                        rotate_left 1
                        · (intro w hSw; (try dsimp only at hSw); go_simp; try with_reducible rfl)
                        try simp only [List.setIfInBounds_toArray, List.set_cons_zero, List.set_cons_succ]
                        refine reg_take (i := 3) (v := ?_) rfl rfl (by kernel_rfl) (by kernel_rfl) (by kernel_rfl) (fun _ _ _ h => h) (by assumption) (by rfl) ?_ ?_
                        rotate_left 1
                        · (intro w hSw; (try dsimp only at hSw); go_simp; try with_reducible rfl)
                        try simp only [List.setIfInBounds_toArray, List.set_cons_zero, List.set_cons_succ]
                        refine reg_take (i := 4) (v := ?_) rfl rfl (by kernel_rfl) (by kernel_rfl) (by kernel_rfl) (fun _ _ _ h => h) (by assumption) (by rfl) ?_ ?_
                        rotate_left 1
                        · (intro w hSw; (try dsimp only at hSw); go_simp; try with_reducible rfl)
                        try simp only [List.setIfInBounds_toArray, List.set_cons_zero, List.set_cons_succ]
                        refine reg_take (i := 5) (v := ?_) rfl rfl (by kernel_rfl) (by kernel_rfl) (by kernel_rfl) (fun _ _ _ h => h) (by assumption) (by rfl) ?_ ?_
                        rotate_left 1
                        · (intro w hSw; (try dsimp only at hSw); go_simp; try with_reducible rfl)
                        try simp only [List.setIfInBounds_toArray, List.set_cons_zero, List.set_cons_succ]
                        refine reg_take (i := 6) (v := ?_) rfl rfl (by kernel_rfl) (by kernel_rfl) (by kernel_rfl) (fun _ _ _ h => h) (by assumption) (by rfl) ?_ ?_
                        rotate_left 1
                        · (intro w hSw; (try dsimp only at hSw); go_simp; try with_reducible rfl)
                        try simp only [List.setIfInBounds_toArray, List.set_cons_zero, List.set_cons_succ]
                        refine reg_take (i := 7) (v := ?_) rfl rfl (by kernel_rfl) (by kernel_rfl) (by kernel_rfl) (fun _ _ _ h => h) (by assumption) (by rfl) ?_ ?_
                        rotate_left 1
                        · (intro w hSw; (try dsimp only at hSw); go_simp; try with_reducible rfl)
                        try simp only [List.setIfInBounds_toArray, List.set_cons_zero, List.set_cons_succ]
                        refine reg_take (i := 8) (v := (.agg X.cells)) rfl rfl (by kernel_rfl) (by kernel_rfl) (by kernel_rfl) (fun _ _ _ h => h) (by assumption) (by rfl) (fun W hW => run_loadV_mid W g (o + 2) cur X _ _ hW.2.2 y5) ?_
                        try simp only [List.setIfInBounds_toArray, List.set_cons_zero, List.set_cons_succ]
                        refine reg_step (i := 9) (by kernel_rfl) rfl (by rfl) (fun KC hKC => ?_)
                        go_simp
                        refine (sput_any s2 l2 _ A C X hsl2 _ hS22).mono ?_; rintro e w3 ⟨rfl, hS23, T3⟩
                        have hS13 := hS12.keep T3 (fun e => by have : s1 = l2 := e; omega) (fun e => by have : l1 = l2 := e; omega)
                        have hp3 := hp2.put hS22 T3
                        have hq3 := hq2.put hS22 T3
                        have hb3 := hb2.trans (T3.below (B := w.heap.size) hb2.size (fun i (e : i = l2) => by omega))
                        have s3 := hd_turn hHeld T3 hS22
                        clear hHeld hp2 hq2 hS22 hS12 hb2 T3
                        refine hKC.out _ _ ?_ (fun hHeld => ?_)
                        · exact s3
                        clear hKC KC
                        refine wpAnyH_done (by kernel_rfl) ?_ _
                        clear hHeld s3 y5
                        have hp4 := hp3.tail2
                        have hab2 : putAll (storePut ub A C X) (pl ++ y :: ql) = T := hT.out
                        go_wp2_with fail
                        exact ⟨⟨j + 1, pl, y :: ql, by go_num, by omega, hp4, hq3, hS13, ⟨_, hS23, hab2⟩, hD.out.left, hb3⟩, by simp [sLen]⟩
                        --)g2
                      | true =>
                        obtain ⟨⟨B, D⟩, Y⟩ := y
                        obtain ⟨_, _, g, o, cur, rfl, y1, y2⟩ := hq.head
                        --(g3
                        have k1 : ((((((((A, C), X) :: pl).length : Nat) : Int)) == 0)) = false := by rw [List.length_cons]; simp; omega
                        have k2 : decide (0 < (((((B, D), Y) :: ql).length : Nat) : Int)) = true := decide_eq_true (by rw [List.length_cons]; omega)
                        have hcell := mid_cell y1 y2
                        obtain ⟨y3, y4, y5⟩ := hcell
                        have ao : (⟨g, o, none⟩ : Addr).add 0 = ⟨g, o, none⟩ := rfl
                        go_upto_region 36 with fail
                        have b2 : Below wc.heap.size wc wc.drew := below_drewN (Below.refl _ wc) 1
                        have S0 : HdAt g o cur B D wc.drew := ⟨y3, y4, y1⟩
                        have hp2 := hp.below b2
                        have hq2 := hq.below b2
                        have hS12 := hS1.keep (Turn.of_below b2 (fun _ => False)) id id
                        have hS22 := hS2.keep (Turn.of_below b2 (fun _ => False)) id id
                        have hb2 := hb.trans (b2.mono hb.size)
                        clear b2 hp hq hS1 hS2 hb y1 y3 y4
                        refine wp_region_held_drew (S := HdAt g o cur B D) (by kernel_rfl) S0 (fun hHeld => ?_)
                        clear S0
                        refine reg_take (i := 0) (v := ?_) rfl rfl (by kernel_rfl) (by kernel_rfl) (by kernel_rfl) (fun _ _ _ h => h) (by assumption) (by rfl) ?_ ?_
                        rotate_left 1
                        · (intro w hSw; (try dsimp only at hSw); go_simp; try with_reducible rfl)
                        try simp only [List.setIfInBounds_toArray, List.set_cons_zero, List.set_cons_succ]
                        refine reg_take (i := 1) (v := ?_) rfl rfl (by kernel_rfl) (by kernel_rfl) (by kernel_rfl) (fun _ _ _ h => h) (by assumption) (by rfl) ?_ ?_
                        rotate_left 1
                        · (intro w hSw; (try dsimp only at hSw); go_simp; try with_reducible rfl)
                        try simp only [List.setIfInBounds_toArray, List.set_cons_zero, List.set_cons_succ]
                        refine reg_take (i := 2) (v := ?_) rfl rfl (by kernel_rfl) (by kernel_rfl) (by kernel_rfl) (fun _ _ _ h => h) (by assumption) (by rfl) ?_ ?_
                        rotate_left 1
                        · (intro w hSw; (try dsimp only at hSw); go_simp; try with_reducible rfl)
                        try simp only [List.setIfInBounds_toArray, List.set_cons_zero, List.set_cons_succ]
                        refine reg_take (i := 3) (v := ?_) rfl rfl (by kernel_rfl) (by kernel_rfl) (by kernel_rfl) (fun _ _ _ h => h) (by assumption) (by rfl) ?_ ?_
                        rotate_left 1
                        · (intro w hSw; (try dsimp only at hSw); go_simp; try with_reducible rfl)
                        try simp only [List.setIfInBounds_toArray, List.set_cons_zero, List.set_cons_succ]
                        refine reg_take (i := 4) (v := ?_) rfl rfl (by kernel_rfl) (by kernel_rfl) (by kernel_rfl) (fun _ _ _ h => h) (by assumption) (by rfl) ?_ ?_
                        rotate_left 1
                        · (intro w hSw; (try dsimp only at hSw); go_simp; try with_reducible rfl)
                        try simp only [List.setIfInBounds_toArray, List.set_cons_zero, List.set_cons_succ]
                        refine reg_take (i := 5) (v := ?_) rfl rfl (by kernel_rfl) (by kernel_rfl) (by kernel_rfl) (fun _ _ _ h => h) (by assumption) (by rfl) ?_ ?_
                        rotate_left 1
                        · (intro w hSw; (try dsimp only at hSw); go_simp; try with_reducible rfl)
                        try simp only [List.setIfInBounds_toArray, List.set_cons_zero, List.set_cons_succ]
                        refine reg_take (i := 6) (v := ?_) rfl rfl (by kernel_rfl) (by kernel_rfl) (by kernel_rfl) (fun _ _ _ h => h) (by assumption) (by rfl) ?_ ?_
                        rotate_left 1
                        · (intro w hSw; (try dsimp only at hSw); go_simp; try with_reducible rfl)
                        try simp only [List.setIfInBounds_toArray, List.set_cons_zero, List.set_cons_succ]
                        refine reg_take (i := 7) (v := ?_) rfl rfl (by kernel_rfl) (by kernel_rfl) (by kernel_rfl) (fun _ _ _ h => h) (by assumption) (by rfl) ?_ ?_
                        rotate_left 1
                        · (intro w hSw; (try dsimp only at hSw); go_simp; try with_reducible rfl)
                        try simp only [List.setIfInBounds_toArray, List.set_cons_zero, List.set_cons_succ]
                        refine reg_take (i := 8) (v := (.agg Y.cells)) rfl rfl (by kernel_rfl) (by kernel_rfl) (by kernel_rfl) (fun _ _ _ h => h) (by assumption) (by rfl) (fun W hW => run_loadV_mid W g (o + 2) cur Y _ _ hW.2.2 y5) ?_
                        try simp only [List.setIfInBounds_toArray, List.set_cons_zero, List.set_cons_succ]
                        refine reg_step (i := 9) (by kernel_rfl) rfl (by rfl) (fun KC hKC => ?_)
                        go_simp
                        refine (sput_any s2 l2 _ B D Y hsl2 _ hS22).mono ?_; rintro e w3 ⟨rfl, hS23, T3⟩
                        have hS13 := hS12.keep T3 (fun e => by have : s1 = l2 := e; omega) (fun e => by have : l1 = l2 := e; omega)
                        have hp3 := hp2.put hS22 T3
                        have hq3 := hq2.put hS22 T3
                        have hb3 := hb2.trans (T3.below (B := w.heap.size) hb2.size (fun i (e : i = l2) => by omega))
                        have s3 := hd_turn hHeld T3 hS22
                        clear hHeld hp2 hq2 hS22 hS12 hb2 T3
                        refine hKC.out _ _ ?_ (fun hHeld => ?_)
                        · exact s3
                        clear hKC KC
                        refine wpAnyH_done (by kernel_rfl) ?_ _
                        clear hHeld s3 y5
                        have hq4 := hq3.tail2
                        have hab2 : putAll (storePut ub B D Y) ((((A, C), X) :: pl) ++ ql) = T := by
                          rw [← hT.out]; exact put_first ub ((B, D), Y) (((A, C), X) :: pl) ql hD.out
                        go_wp2_with fail
                        exact ⟨⟨j + 1, ((A, C), X) :: pl, ql, by go_num, by omega, hp3, hq4, hS13, ⟨_, hS23, hab2⟩, hD.out.right, hb3⟩, by simp [sLen]⟩
                        --)g3
              · have e1 : pl = [] := List.length_eq_zero_iff.1 (by omega)
                have e2 : ql = [] := List.length_eq_zero_iff.1 (by omega)
                subst e1 e2
                have hU : ub = T := hT.out
                subst hU
                clear hp hq hT hD
                --(h
                have i1 : decide ((0 : Int) < ((([] : List Wr).length : Nat) : Int) + ((([] : List Wr).length : Nat) : Int)) = false := rfl
                go_wp2_with fail
                try simp only [List.length_nil]
                go_loopw [23] (fun i wr => ∃ j : Nat, j ≤ 55 ∧ i = .int .i64 (j : Int) ∧ StoreAt wr s1 l1 ub ∧ StoreAt wr s2 l2 ub ∧ Below w.heap.size w wr) (fun i _ => 55 - (intOf i).toNat)
                case atStart => exact ⟨0, by omega, rfl, hS1, hS2, hb⟩
                case round =>
                  clear hS1 hS2 hb
                  obtain ⟨j, hj, rfl, hS1, hS2, hb⟩ := hrel
                  have j0 : (0 : Int) ≤ (j : Int) := by omega
                  go_wp2_with fail
                  refine (all_any _).mono ?_; rintro e w3 ⟨rfl, rfl⟩
                  by_cases hlt : j < 55
                  · have lt1 : (j : Int) < 55 := by omega
                    have hat := fun W => at_row j hlt W
                    rw [show (atK (j : Int)).getD (0, 0) = keyP (j : Int) from rfl] at hat
                    have HAT := Lib.hid hat
                    clear hat
                    generalize (keyP (j : Int)).1 = A at *
                    generalize (keyP (j : Int)).2 = C at *
                    go_wp2_with fail
                    refine (HAT.out _).mono ?_; rintro e w4 ⟨rfl, t4⟩
                    have hS14 := hS1.keep (Turn.of_below t4 (fun _ => False)) id id
                    have hS24 := hS2.keep (Turn.of_below t4 (fun _ => False)) id id
                    have hb4 := hb.trans (t4.mono hb.size)
                    clear hS1 hS2 hb t4 HAT
                    go_upto_region 44 with fail
                    have b5 : Below w4.heap.size w4 (w4.alloc (.cells #[.int .i64 A, .int .i64 C] 23)) := (Below.refl _ _).alloc (Nat.le_refl _) _
                    have k0 : K2 w4.heap.size A C (w4.alloc (.cells #[.int .i64 A, .int .i64 C] 23)) := ⟨cell_of_row _ _ 0 _ _ _ (heap_alloc_new _ _), cell_of_row _ _ 1 _ _ _ (heap_alloc_new _ _)⟩
                    have hS15 := hS14.keep (Turn.of_below b5 (fun _ => False)) id id
                    have hS25 := hS24.keep (Turn.of_below b5 (fun _ => False)) id id
                    have hb5 := hb4.trans (b5.mono hb4.size)
                    clear hS14 hS24 b5 hb4
                    generalize w4.alloc (.cells #[.int .i64 A, .int .i64 C] 23) = W5 at *
                    generalize w4.heap.size = K at *
                    have b6 : Below W5.heap.size W5 W5.drew := below_drewN (Below.refl _ W5) 1
                    have S0 : K2 K A C W5.drew := cells_two k0 b6
                    have hS16 := hS15.keep (Turn.of_below b6 (fun _ => False)) id id
                    have hS26 := hS25.keep (Turn.of_below b6 (fun _ => False)) id id
                    have hb6 := hb5.trans (b6.mono hb5.size)
                    clear hS15 hS25 b6 k0 hb5
                    refine wp_region_held_drew (S := K2 K A C) (by kernel_rfl) S0 (fun hHeld => ?_)
                    clear S0
                    refine reg_take (i := 0) (v := ?_) rfl rfl (by kernel_rfl) (by kernel_rfl) (by kernel_rfl) (fun _ _ _ h => h) (by assumption) (by rfl) ?_ ?_
                    rotate_left 1
                    · (intro w hSw; (try dsimp only at hSw); go_simp; try with_reducible rfl)
                    try simp only [List.setIfInBounds_toArray, List.set_cons_zero, List.set_cons_succ]
                    refine reg_take (i := 1) (v := ?_) rfl rfl (by kernel_rfl) (by kernel_rfl) (by kernel_rfl) (fun _ _ _ h => h) (by assumption) (by rfl) ?_ ?_
                    rotate_left 1
                    · (intro w hSw; (try dsimp only at hSw); go_simp; try with_reducible rfl)
                    try simp only [List.setIfInBounds_toArray, List.set_cons_zero, List.set_cons_succ]
                    refine reg_take (i := 3) (v := ?_) rfl rfl (by kernel_rfl) (by kernel_rfl) (by kernel_rfl) (fun _ _ _ h => h) (by assumption) (by rfl) ?_ ?_
                    rotate_left 1
                    · (intro w hSw; (try dsimp only at hSw); go_simp; try with_reducible rfl)
                    try simp only [List.setIfInBounds_toArray, List.set_cons_zero, List.set_cons_succ]
                    refine reg_take (i := 4) (v := ?_) rfl rfl (by kernel_rfl) (by kernel_rfl) (by kernel_rfl) (fun _ _ _ h => h) (by assumption) (by rfl) ?_ ?_
                    rotate_left 1
                    · (intro w hSw; (try dsimp only at hSw); go_simp; try with_reducible rfl)
                    try simp only [List.setIfInBounds_toArray, List.set_cons_zero, List.set_cons_succ]
                    refine reg_step (i := 2) (by kernel_rfl) rfl (by rfl) (fun KC hKC => ?_)
                    go_simp
                    refine (sget_any s1 l1 _ A C _ hS16).mono ?_; rintro e w7 ⟨rfl, t7⟩
                    have s7 := cells_two hHeld t7
                    have hS17 := hS16.keep (Turn.of_below t7 (fun _ => False)) id id
                    have hS27 := hS26.keep (Turn.of_below t7 (fun _ => False)) id id
                    have hb7 := hb6.trans (t7.mono hb6.size)
                    clear hS16 hS26 t7 hHeld hb6
                    refine hKC.out _ _ ?_ (fun hHeld => ?_)
                    · exact s7
                    clear hKC KC
                    refine reg_step (i := 5) (by kernel_rfl) rfl (by rfl) (fun KC hKC => ?_)
                    go_simp
                    refine (sget_any s2 l2 _ A C _ hS27).mono ?_; rintro e w8 ⟨rfl, t8⟩
                    have s8 := cells_two s7 t8
                    have hS18 := hS17.keep (Turn.of_below t8 (fun _ => False)) id id
                    have hS28 := hS27.keep (Turn.of_below t8 (fun _ => False)) id id
                    have hb8 := hb7.trans (t8.mono hb7.size)
                    clear hS17 hS27 t8 hHeld s7 hb7
                    refine hKC.out _ _ ?_ (fun hHeld => ?_)
                    · exact s8
                    clear hKC KC
                    have hne := neqV_run (storeLook ub A C)
                    refine reg_take (i := 6) (v := .bool false) rfl rfl (by kernel_rfl) (by kernel_rfl) (by kernel_rfl) (fun _ _ _ h => h) (by assumption) (by rfl) (fun w hS => run_neq_op rfl rfl (by kernel_rfl) (hne w)) ?_
                    try simp only [List.setIfInBounds_toArray, List.set_cons_zero, List.set_cons_succ]
                    refine wpAnyH_done (by kernel_rfl) ?_ _
                    clear hHeld s8 hne
                    go_wp2_with fail
                    exact ⟨⟨j + 1, by omega, by go_num, hS18, hS28, hb8⟩, by simp [intOf]; omega⟩
                  · have lt1 : ¬ (j : Int) < 55 := by omega
                    obtain rfl : j = 55 := by omega
                    go_wp2_with fail
                    refine (sruns_any _).mono ?_; rintro e w15 ⟨rfl, t15⟩
                    go_wp2_with fail
                    go_ret
                    exact ⟨rfl, hb.trans (t15.mono hb.size)⟩
                --)h
              --)f
        --)e
end Go.Proofs.Ytncgppdmfnapiaa.St
