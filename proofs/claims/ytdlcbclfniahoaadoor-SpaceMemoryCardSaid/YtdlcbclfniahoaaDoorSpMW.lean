/- The walk of cloisterlaw16.SpaceMemory. Where the library's table holds what its initialiser lays. -/
import Derived.Test.YtdlcbclfniahoaaDoorSpM
import Derived.Deep.Cut
namespace Go.Proofs.YtdlcbclfniahoaaDoor.St
open Go.RowKit
set_option linter.unusedVariables false

theorem Std.offB {w W W' : World} {t : Nat} {L : Lay} {d q : Nat} {st : VSt} {B : Nat} (S : Std w t L d q st W) (lt : L.v < B ∧ L.s < B ∧ L.l < B ∧ L.r < B ∧ L.m < B) (tB : t < B) (zB : w.heap.size ≤ B) (h : Turn (· = B) W W') : Std w t L d q st W' :=
  ⟨S.v.off (h.mono fun i _ e => by have e : i = B := e; omega) lt, blk_of_turn h S.t (show ¬ (t = B) by omega),
    S.b.trans (h.below (B := w.heap.size) S.b.size (fun i e => by have e : i = B := e; omega)), S.r, S.m⟩
attribute [local go_sem] run_fieldN run_indexN run_fieldS
attribute [local go_sem] blk_alloc_at blk_alloc_past blk_drew blk_drewN blk_setB_same blk_setB_other blk_setRow_other setRow_alloc_at setRow_alloc_past setRow_drewN setRow_drew setB_size setB_cell setB_frozen setB_alloc_past setB_drewN setB_drew run_loadV loadOr_cells run_storeV storeOr_cells cells_size ones_cells cells_0 cells_1 cells_2 cells_16
attribute [local go_sem ↓] execOp_loadV execOp_storeV
attribute [local go_sem ↓] wp_at0 wp_at1 wp_at2 wp_at3 wp_at4 wp_at5 wp_at6 wp_at7 wp_at8 wp_at9
attribute [local irreducible] Int.lt Int.le
set_option maxRecDepth 100000 in
set_option maxHeartbeats 4000000 in
theorem spaceMemory_walk (a0 a1 a2 : Int) (w : World) (w0 : (Lit.int .i64 a0).wf = true) (w1 : (Lit.int .i64 a1).wf = true) (w2 : (Lit.int .i64 a2).wf = true) (hM : Bx w) :
    Calls Tryd.prog 5 #[.int .i64 a0, .int .i64 a1, .int .i64 a2] w fun e w' => e = .returned (.bool true) ∧ Below w.heap.size w w' := by
  have hz := zero_val
  go_enter Tryd.func5, Tryd.ntmps5
  go_wp2_with fail
  refine (lpool_any _ _).mono ?_; rintro e W0 ⟨t, d, q, L, rfl, S0⟩
  have R0 : SR _ me0 := pl2_SR _
  have c0 := S0.cell
  go_wp2_with fail
  have kx := Fp.within_bounds a0 1 3 (by omega)
  refine (Fp.within_any a0 1 3 (by omega) (by omega) (by omega) _).mono ?_; rintro e W1 ⟨rfl, rfl⟩
  generalize Fp.withinI a0 1 3 = x at *
  obtain ⟨X, rfl⟩ := Int.eq_ofNat_of_zero_le (show 0 ≤ x by omega)
  go_wp2_with fail
  have ky := Fp.within_bounds a1 0 3 (by omega)
  refine (Fp.within_any a1 0 3 (by omega) (by omega) (by omega) _).mono ?_; rintro e W1 ⟨rfl, rfl⟩
  generalize Fp.withinI a1 0 3 = y at *
  obtain ⟨Y, rfl⟩ := Int.eq_ofNat_of_zero_le ky.1
  go_wp2_with fail
  have kz := Fp.within_bounds a2 0 3 (by omega)
  refine (Fp.within_any a2 0 3 (by omega) (by omega) (by omega) _).mono ?_; rintro e W1 ⟨rfl, rfl⟩
  generalize Fp.withinI a2 0 3 = z at *
  obtain ⟨Z0, rfl⟩ := Int.eq_ofNat_of_zero_le kz.1
  have hX : X < 4 := by omega
  have hY : Y < 4 := by omega
  have x0 : (0 : Int) ≤ (X : Int) := by omega
  have x1 : (X : Int) < 4 := by omega
  have y0 : (0 : Int) ≤ (Y : Int) := by omega
  have y1 : (Y : Int) < 4 := by omega
  have z0 : (0 : Int) ≤ (Z0 : Int) := by omega
  have z1 : (Z0 : Int) < 4 := by omega
  clear kx ky kz w0 w1 w2
  obtain ⟨m1, _, _, mX1, mM1, _, _⟩ := me1_is X hX
  go_wp2_with fail
  have h1 := s_grow S0 R0 hM (fun p _ => by show (0 : Nat) ≤ 1000; omega) (fun p _ => by show (0 : Nat) ≤ 1000; omega) 0 X (by omega)
  rw [m1, show gA me0 0 X = me1 X from rfl] at h1
  refine h1.mono ?_; rintro e W2 ⟨rfl, st2, R2, S2, _⟩
  clear S0 R0 h1 c0 m1
  go_upto_region 9 with fail
  have S3 := S2.below ((Below.refl _ _).alloc (Nat.le_refl _) (Obj.cells #[.int .i64 12, .int .i64 0] 48))
  have bK := blk_alloc_at W2 (Obj.cells #[.int .i64 12, .int .i64 0] 48) _ rfl
  have zK := S2.b.size
  generalize W2.alloc (Obj.cells #[.int .i64 12, .int .i64 0] 48) = W3 at *
  generalize W2.heap.size = K at *
  clear S2
  have e0 := (key_cells bK).1
  have e1 := (key_cells bK).2
  go_wp2_with fail
  have h1 := s_mem S3 R2 0 (by decide)
  rw [show ((0 : Nat) : Int) = 0 from rfl] at h1
  refine h1.mono ?_; rintro e W4 ⟨zv, rfl, _, st4, R4, S4, t4⟩
  have bK4 := S3.other t4 bK
  clear S3 R2 h1 bK t4 e0 e1
  go_upto_region 10 with fail
  have S5 := S4.below ((Below.refl _ _).alloc (Nat.le_refl _) (Obj.cells zv.cells 45))
  have bB := blk_alloc_at W4 (Obj.cells zv.cells 45) _ rfl
  have bK5 := (blk_alloc_past W4 (Obj.cells zv.cells 45) _ (blk_lt bK4)).trans bK4
  have zB := S4.b.size
  have ltB := S4.v.lts
  have tB := blk_lt S4.t
  have nKB := Nat.ne_of_lt (blk_lt bK4)
  generalize W4.alloc (Obj.cells zv.cells 45) = W5 at *
  generalize W4.heap.size = B at *
  clear S4 bK4
  go_wp2_with fail
  refine (text_any a0 (16 * (X : Int)) (by omega) (by omega) _).mono ?_; rintro e W6 ⟨D, rfl, hD0, b6⟩
  have hD : D.size = 16 * X := by omega
  clear hD0
  have S6 := S5.below b6
  have bB6 := blk_below b6 bB (blk_lt bB)
  have bK6 := blk_below b6 bK5 (blk_lt bK5)
  have fB := frozen_blk bB6
  have cB := cell_of_row _ _ 16 _ _ _ bB6
  rw [cells_16] at cB
  have lB := blk_lt bB6
  clear S5 bB bK5 b6
  go_upto_region 11 with fail
  have bB7 := blk_setCell_same bB6 16 (.string D)
  rw [cells_text] at bB7
  have bK7 := (blk_setCell_other W6 ⟨B, 16, none⟩ (.string D) K nKB).trans bK6
  have tl : Turn (· = B) W6 (W6.setCell ⟨B, 16, none⟩ (.string D)) := (Turn.refl (· = B) W6).setCell (p := ⟨B, 16, none⟩) (Or.inl (show B = B from rfl)) _
  have S7 := S6.offB ltB tB zB tl
  generalize W6.setCell ⟨B, 16, none⟩ (.string D) = W7 at *
  clear S6 bB6 bK6 fB lB tl cB
  have e0 := (key_cells bK7).1
  have e1 := (key_cells bK7).2
  go_wp2_with fail
  refine (s_putM S7 R4 (zv.text D)).mono ?_; rintro e W8 ⟨rfl, st8, R8, S8, t8⟩
  have R8 : SR st8 (me2 X D) := R8
  have bK8 := S7.other t8 bK7
  have bB8 := S7.other t8 bB7
  clear S7 bK7 bB7 t8 R4 e0 e1
  go_upto_region 12 with fail
  have mX2 : ∀ p, p < 2 → ((me2 X D).X p).size ≤ 1000 := mX1
  have mM2 : ∀ p, p < 2 → ((me2 X D).M p).size ≤ 1000 := updF_size mM1 (by omega)
  have h1 := s_grow S8.drew R8 hM mX2 mM2 0 Y (by omega)
  rw [me2_ok X Y D hX hY, show gA (me2 X D) 0 Y = me3 X Y D from rfl] at h1
  have bKd : blk W8.drew K = _ := (blk_drew _ _).trans bK8
  have bBd : blk W8.drew B = _ := (blk_drew _ _).trans bB8
  have Sd := S8.drew
  have hM3 := me3_M X Y D hX hY
  have hnn := noughts_size (16 * Y)
  have hmk : ∀ W : World, (Instr.makeSlice 53 (.int .i64 (IntKind.i64.wrap (16 * (Y : Int)))) (.int .i64 (IntKind.i64.wrap (16 * (Y : Int))))).run Tryd.prog W = .ok (.slice (some ⟨W.heap.size, 0, none⟩) (16 * Y) (16 * Y)) (W.alloc (.cells (byteRow (List.replicate (16 * Y) 0)) 5)) := by
    intro W
    have := run_makeBytes (16 * Y) (by omega) W
    rw [show ((16 * Y : Nat) : Int) = IntKind.i64.wrap (16 * (Y : Int)) by rw [wrap_i64]; unfold wrap64; omega] at this
    exact this
  have hcv : ∀ (W : World) (m : Nat), blk W m = some (.cells (byteRow (List.replicate (16 * Y) 0)) 5 (0, 0)) → (convert 53 9 (.slice (some ⟨m, 0, none⟩) (16 * Y) (16 * Y))).run Tryd.prog W = .ok (.string (noughts (16 * Y))) W := by
    intro W m hb
    have := run_bytesText (List.replicate (16 * Y) 0) W m hb
    rw [List.length_replicate, fold_noughts] at this
    exact this
  obtain ⟨U, hU⟩ : ∃ U, U = D ++ noughts (16 * Y) := ⟨_, rfl⟩
  rw [← hU] at hM3
  have sD : (D.size : Int) ≤ 48 := by omega
  have sN : ((noughts (16 * Y)).size : Int) ≤ 48 := by omega
  have sN0 : (0 : Int) ≤ ((noughts (16 * Y)).size : Int) := by omega
  have sD0 : (0 : Int) ≤ (D.size : Int) := by omega
  have hUs := hU.symm
  have HU := Lib.hid hU
  have HNN := Lib.hid hnn
  clear hU bK8 bB8 S8 R8 hnn mX1 mM1
  generalize hnn0 : noughts (16 * Y) = nn at *
  have HN2 := Lib.hid hnn0
  clear hnn0
  have Hz := Lib.hid hz
  clear hz
  have k0 := (key_cells bKd).1
  have k1 := (key_cells bKd).2
  have k2 := cell_of_row _ _ 16 _ _ _ bBd
  rw [cells_16, show (zv.text D).s = D from rfl] at k2
  have kcs : ∀ W, blk W K = some (.cells #[.int .i64 12, .int .i64 0] 48 (0, 0)) → blk W B = some (.cells (zv.text D).cells 45 (0, 0)) → W.cell? ⟨K, 0, none⟩ = some (.int .i64 12) ∧ W.cell? ⟨K, 1, none⟩ = some (.int .i64 0) ∧ W.cell? ⟨B, 16, none⟩ = some (.string D) := by
    intro W b1 b2
    have k2 := cell_of_row _ _ 16 _ _ _ b2
    rw [cells_16, show (zv.text D).s = D from rfl] at k2
    exact ⟨(key_cells b1).1, (key_cells b1).2, k2⟩
  go_cut [65] from 18 (fun s wx => s = .bool false ∧ ∃ st', SR st' (me3 X Y D) ∧ Std w t L d q st' wx ∧ blk wx K = some (.cells #[.int .i64 12, .int .i64 0] 48 (0, 0)) ∧ blk wx B = some (.cells (zv.text D).cells 45 (0, 0)))
  case first =>
    go_region_held (fun W => W.cell? ⟨K, 0, none⟩ = some (.int .i64 12) ∧ W.cell? ⟨K, 1, none⟩ = some (.int .i64 0) ∧ W.cell? ⟨B, 16, none⟩ = some (.string D))
      (first | assumption | go_keep)
      (first
        | (go_at_call 8; refine h1.mono ?_; rintro e W9 ⟨rfl, st9, R9, S9, t9⟩; have bK9 := Sd.other t9 bKd; have bB9 := Sd.other t9 bBd; have s9 := kcs _ bK9 bB9)
        | (go_at_call 15; refine (s_mem S9 R9 0 (by decide)).mono ?_; rintro e W10 ⟨z, rfl, hzs, st10, R10, S10, t10⟩; rw [hM3] at hzs; have bK10 := S9.other t10 bK9; have bB10 := S9.other t10 bB9; have s10 := kcs _ bK10 bB10)
        | (go_at_call 15; refine (s_mem (S9.below ((Below.refl _ _).alloc (Nat.le_refl _) (Obj.cells (byteRow (List.replicate (16 * Y) 0)) 5))) R9 0 (by decide)).mono ?_; rintro e W10 ⟨z, rfl, hzs, st10, R10, S10, t10⟩; rw [hM3] at hzs; have bm := (S9.below ((Below.refl _ _).alloc (Nat.le_refl _) (Obj.cells (byteRow (List.replicate (16 * Y) 0)) 5))).other t10 (blk_alloc_at _ _ _ rfl); have bK10 := (S9.below ((Below.refl _ _).alloc (Nat.le_refl _) (Obj.cells (byteRow (List.replicate (16 * Y) 0)) 5))).other t10 ((blk_alloc_past _ _ _ (blk_lt bK9)).trans bK9); have bB10 := (S9.below ((Below.refl _ _).alloc (Nat.le_refl _) (Obj.cells (byteRow (List.replicate (16 * Y) 0)) 5))).other t10 ((blk_alloc_past _ _ _ (blk_lt bB9)).trans bB9); have s10 := kcs _ bK10 bB10))
    all_goals
      go_wp2_with fail
      go_meet
      case rel =>
        first
        | exact ⟨rfl, _, R10, S10, bK10, bB10⟩
        | exact ⟨rfl, _, R10, S10.below ((Below.refl _ _).alloc (Nat.le_refl _) _), (blk_alloc_past _ _ _ (blk_lt bK10)).trans bK10, (blk_alloc_past _ _ _ (blk_lt bB10)).trans bB10⟩
  case rest =>
    obtain ⟨rfl, st12, R12, S12, bK12, bB12⟩ := hcut
    clear Sd bKd bBd k0 k1 k2 kcs h1
    have hz := Hz.out
    obtain ⟨Z, hZ0⟩ := Int.eq_ofNat_of_zero_le (show 0 ≤ min (Z0 : Int) ((X : Int) + Y) by omega)
    have hZ : Z ≤ X + Y := by omega
    go_upto_region 14 with fail
    have z2 : (0 : Int) ≤ (Z : Int) := by omega
    have z3 : (Z : Int) ≤ (X : Int) + Y := by omega
    go_wp2_with fail
    obtain ⟨mX3, mM3⟩ := me3_size X Y D hX hY hD
    have h1 := s_shrink S12 R12 mX3 mM3 0 Z (by omega)
    rw [me3_ok X Y D Z hX hY hZ, show hA (me3 X Y D) 0 Z = me4 X Y D Z from rfl] at h1
    refine h1.mono ?_; rintro e W13 ⟨v13, rfl, il13, st13, R13, S13, t13⟩
    have bK13 := S12.other t13 bK12
    have bB13 := S12.other t13 bB12
    clear S12 R12 h1 il13 bK12 bB12 t13
    go_upto_region 18 with fail
    have cB := cell_of_row _ _ 16 _ _ _ bB13
    rw [cells_16, show (zv.text D).s = D from rfl] at cB
    obtain ⟨lf, hlf⟩ : ∃ lf, lf = (X : Int) + Y - Z := ⟨_, rfl⟩
    rw [← hlf]
    have HZZ := Lib.hid hZ0
    have sU : (U.size : Int) = 16 * ((X : Int) + Y) := by have := HNN.out; rw [← hUs, ByteArray.size_append]; omega
    have l0 : (0 : Int) ≤ lf := by omega
    have l6 : lf ≤ 6 := by omega
    have w16 : IntKind.i64.wrap (16 * lf) = 16 * lf := by rw [wrap_i64]; unfold wrap64; omega
    have l16 : 16 * lf ≤ (U.size : Int) := by omega
    have l160 : (0 : Int) ≤ 16 * lf := by omega
    have HX := Lib.hid hlf
    have HSU := Lib.hid sU
    clear hlf hZ0 sU z2 z3
    have Hz2 := Lib.hid hz
    have Sd := S13.drew
    have R14 := R13
    have bKd : blk wc.drew K = blk wc.drew K := rfl
    clear bKd hz
    go_cut [17] from 18 (fun s wx => s = .string (U.extract 0 (16 * lf).toNat) ∧ Std w t L d q st13 wx ∧ blk wx K = some (.cells #[.int .i64 12, .int .i64 0] 48 (0, 0)) ∧ blk wx B = some (.cells (zv.text D).cells 45 (0, 0)))
    case first =>
      go_region_held (fun W => W.cell? ⟨B, 16, none⟩ = some (.string D)) (first | assumption | go_keep) (fail)
      all_goals
        go_wp2_with fail
        go_meet
        case rel =>
          exact ⟨rfl, Sd.below ((Below.refl _ _).alloc (Nat.le_refl _) _), (blk_alloc_past _ _ _ (blk_lt ((blk_drew _ _).trans bK13))).trans ((blk_drew _ _).trans bK13), (blk_alloc_past _ _ _ (blk_lt ((blk_drew _ _).trans bB13))).trans ((blk_drew _ _).trans bB13)⟩
    case rest =>
      obtain ⟨rfl, S14, bK14, bB14⟩ := hcut
      obtain ⟨h41, h42, _⟩ := me4_eq X Y D Z hX hY hZ hD
      obtain ⟨mX4, mM4⟩ := me4_size X Y D Z hX hY hZ hD
      have hWs := meW_size X Y D Z hD
      have h5 := me5_M X Y D Z hX hY hZ hD
      have h6 := me4_ok X Y D Z hX hY hZ hD
      have hW : meW X Y D Z = U.extract 0 (16 * lf).toNat := by
        unfold meW
        rw [HN2.out, ← HU.out]
        congr 1
        have := HX.out
        omega
      rw [← hW]
      have hz := Hz2.out
      have h7 : (me5 X Y D Z).M 0 = (me5 X Y D Z).M 0 := rfl
      have hg : gOk (me4 X Y D Z) 0 1 = decide (lf < 6) := by
        rw [h6]
        have := HX.out
        rw [Bool.eq_iff_iff]
        simp only [decide_eq_true_eq]
        omega
      clear h7 hW h6
      generalize meW X Y D Z = V at *
      have e0 := (key_cells bK14).1
      have e1 := (key_cells bK14).2
      clear Sd S13 bK13 bB13 cB R13
      go_wp2_with fail
      have h1 := s_mem S14 R14 0 (by decide)
      rw [show ((0 : Nat) : Int) = 0 from rfl, h42] at h1
      refine h1.mono ?_; rintro e W15 ⟨zz, rfl, hzz, st15, R15, S15, t15⟩
      have bK15 := S14.other t15 bK14
      clear S14 R14 h1 bK14 bB14 e0 e1 t15
      go_wp2_with fail
      have h1 := s_grow S15 R15 hM mX4 mM4 0 1 (by omega)
      rw [hg, show gA (me4 X Y D Z) 0 1 = me5 X Y D Z from rfl] at h1
      have hlf : decide (lf < 6) = true ∧ lf < 6 ∨ decide (lf < 6) = false ∧ ¬ lf < 6 := by
        by_cases q : lf < 6
        · exact Or.inl ⟨decide_eq_true q, q⟩
        · exact Or.inr ⟨decide_eq_false q, q⟩
      rcases hlf with ⟨q1, q2⟩ | ⟨q1, q2⟩
      all_goals
        rw [q1] at h1
        refine h1.mono ?_; rintro e W16 ⟨rfl, st16, R16, S16, t16⟩
        have bK16 := S15.other t16 bK15
        clear S15 R15 h1 bK15 t16
        have e0 := (key_cells bK16).1
        have e1 := (key_cells bK16).2
        go_wp2_with fail
        have h1 := s_mem S16 R16 0 (by decide)
        rw [show ((0 : Nat) : Int) = 0 from rfl] at h1
        refine h1.mono ?_; rintro e W17 ⟨zy, rfl, hzy, st17, R17, S17, t17⟩
        rw [← hzy] at h5
        obtain ⟨h51, h52⟩ := h5
        have h53 : (V.size : Int) ≤ (zy.s.size : Int) := by omega
        have h54 : (0 : Int) ≤ (V.size : Int) := by omega
        clear S16 R16 h1 bK16 t17 e0 e1 hzy hWs h52
        go_wp2_with fail
        refine (spaceRuns_any _ (hM.below (Nat.le_refl _) S17.b)).mono ?_; rintro e W18 ⟨rfl, b18⟩
        go_wp2_with fail
        go_ret
        exact ⟨rfl, S17.b.trans (b18.mono S17.b.size)⟩
end Go.Proofs.YtdlcbclfniahoaaDoor.St
