/- SharePlays: the walk. No condition but those written in each statement. -/
import Derived.Test.YtdpgpnjjonhdhaaShQ
namespace Go.Proofs.Ytdpgpnjjonhdhaa.St
open Go.RowKit Go.Proofs.Ytdpgpnjjonhdhaa.Fp Ieee
set_option linter.unusedVariables false

theorem own_none {B : Nat} {W : World} (hB : B ≤ W.heap.size) : (W.alloc (.cells #[] 3)).ownsRow B 3 1 (.slice (some ⟨W.heap.size, 0, none⟩) 0 0) 0 [] :=
  World.ownsRow_lit (size := 1) W #[] 0 hB (by unfold maxLen; omega) rfl
theorem ol_ir2 {B : Nat} {W : World} {v : Value} {ps : List Int} (h : OL B W v ps) : ∃ a c, v = .slice a ps.length c ∧ IR W a ps.length (fun i => ps.getD i 0) ∧ ∀ x, a = some x → B ≤ x.block := h.ir

attribute [local irreducible] Int.lt Int.le less more quo aheadI sclean ofN opN setG runG
set_option maxRecDepth 100000 in
set_option maxHeartbeats 8000000 in
theorem sharePlays_walk (a0 : Int) (a1 : Option Addr) (len1 cap1 : Nat) (w : World) (w0 : (Lit.int .i64 a0).wf = true) (w1 : IsMixS [.int .i64, .int .i64, .int .u64, .ints .i64] w a1 len1 cap1) :
    Calls Try.prog 6 #[.int .i64 a0, .slice a1 len1 cap1] w fun e w' => e = .returned (.bool true) ∧ Below w.heap.size w w' := by
  obtain ⟨i0, hi, hz0, hz1, hz2⟩ := info_parts info_int
  have kb := within_bounds a0 0 6 (by omega)
  obtain ⟨k, hk⟩ : ∃ k : Nat, withinI a0 0 6 = (k : Int) := ⟨(withinI a0 0 6).toNat, by omega⟩
  rw [hk] at kb
  have Wk := fun W => within_any a0 0 6 (by omega) (by omega) (by omega) W
  rw [hk] at Wk
  have Hk := Lib.hid Wk
  clear hk Wk w0
  go_enter Try.func6, Try.ntmps6
  go_wp2_with fail
  refine (Hk.out _).mono ?_; rintro e W1 ⟨rfl, rfl⟩
  clear Hk
  go_wp2_with fail
  refine (new_any k (by omega) w).mono ?_; rintro e W1 ⟨R, X, rfl, hR, hX, hs, hb⟩
  have S := Sd.of_new (Below.refl _ _) hR hX hs hb
  clear hR hX hs hb
  go_wp2_with fail
  refine (rnew_any k (by omega) W1).mono ?_; rintro e W2 ⟨R2, Xw, Xu, Xp, rfl, hlo, hs, hb⟩
  have P : Pl w W2 R X k W2.heap.size R2 Xw Xu Xp one0 one0 := by
    have h1 := S.rb
    have h2 := S.xb
    have h3 := S.bel.size
    have l := hs.lt
    exact ⟨(S.below hb).raise hb.size (Nat.le_refl _), hs, by omega, ⟨l R2 (.inl rfl), l Xw (.inr (.inl rfl)), l Xu (.inr (.inr (.inl rfl))), l Xp (.inr (.inr (.inr rfl)))⟩, by omega, by omega⟩
  clear S hlo hs hb
  generalize W2.heap.size = B at *
  go_wp2_with fail
  go_loopw [8] (fun i wr => ∃ j : Nat, j ≤ 80 ∧ i = .int .i64 (j : Int) ∧ ∃ v, Pl w wr R X k B R2 Xw Xu Xp v v) (fun i _ => 80 - (intOf i).toNat)
  case atStart => exact ⟨0, Nat.zero_le _, rfl, one0, P⟩
  case round =>
    clear P
    obtain ⟨j, hj, rfl, v, P⟩ := hrel
    by_cases hlt : j < len1 ∧ j < 80
    · obtain ⟨q1, q2⟩ := hlt
      have l1 : (j : Int) < (len1 : Int) := by omega
      have l2 : (j : Int) < 80 := by omega
      have l0 : (0 : Int) ≤ (j : Int) := by omega
      obtain ⟨x, rfl, hx⟩ : ∃ x, a1 = some x ∧ ∀ i, i < len1 → ∀ j k, [FS.int .i64, .int .i64, .int .u64, .ints .i64][j]? = some k → ∃ v, w.cell? (x.add (i * [FS.int .i64, .int .i64, .int .u64, .ints .i64].length + j)) = some v ∧ k.fits w v := by
        rcases w1 with ⟨_, h, _⟩ | ⟨x, h0, _, _, h⟩
        · omega
        · exact ⟨x, h0, h⟩
      obtain ⟨v0, ⟨kd, rfl, _⟩, f0⟩ := mixs_first hx 4 rfl j q1 (.int .i64) rfl
      obtain ⟨v1, ⟨ii, rfl, _⟩, f1⟩ := mixs_field hx 4 rfl j q1 1 (.int .i64) rfl (by omega)
      obtain ⟨v2, ⟨xx, rfl, xw⟩, f2⟩ := mixs_field hx 4 rfl j q1 2 (.int .u64) rfl (by omega)
      obtain ⟨v3, ⟨la, ln, lc, zs, rfl, hrow⟩, f3⟩ := mixs_field hx 4 rfl j q1 3 (.ints .i64) rfl (by omega)
      obtain ⟨wd, rfl, hwd⟩ := u64_nat xw
      have c0 := f0 wr P.a.bel
      have c1 := f1 wr P.a.bel
      have c2 := f2 wr P.a.bel
      have c3 := f3 wr P.a.bel
      have HP := Lib.hid P
      clear f0 f1 f2 f3 hx xw P
      go_upto_region 9 with fail
      have P0 := HP.out.alloc (.cells #[.int .i64 kd, .int .i64 ii, .int .u64 (wd : Int), .slice la ln lc] 44)
      have g0 := alloc_cell wr #[.int .i64 kd, .int .i64 ii, .int .u64 (wd : Int), .slice la ln lc] 44 0 _ rfl
      have g1 := alloc_cell wr #[.int .i64 kd, .int .i64 ii, .int .u64 (wd : Int), .slice la ln lc] 44 1 _ rfl
      have g2 := alloc_cell wr #[.int .i64 kd, .int .i64 ii, .int .u64 (wd : Int), .slice la ln lc] 44 2 _ rfl
      have g3 := alloc_cell wr #[.int .i64 kd, .int .i64 ii, .int .u64 (wd : Int), .slice la ln lc] 44 3 _ rfl
      have hG := HP.out.a.bw
      clear HP c0 c1 c2 c3
      generalize wr.alloc (.cells #[.int .i64 kd, .int .i64 ii, .int .u64 (wd : Int), .slice la ln lc] 44) = W0 at *
      generalize wr.heap.size = G at *
      have hm : (kd = 1) ∨ (¬ kd = 1 ∧ kd = 2) ∨ (¬ kd = 1 ∧ ¬ kd = 2 ∧ kd = 3) ∨ (¬ kd = 1 ∧ ¬ kd = 2 ∧ ¬ kd = 3) := by omega
      rcases hm with rfl | ⟨n1, rfl⟩ | ⟨n1, n2, rfl⟩ | ⟨n1, n2, n3⟩
      · go_wp2_with fail
        refine (set_gen w W0 R X k B R2 Xw Xu Xp v v ii wd hwd P0).mono ?_; rintro e W3 ⟨rfl, P3, K3⟩
        have g1' := K3.cell hG g1
        have g2' := K3.cell hG g2
        clear P0 g0 g1 g2 g3 K3
        go_wp2_with fail
        refine (rset_gen w W3 R X k B R2 Xw Xu Xp _ v ii wd hwd P3).mono ?_; rintro e W4 ⟨rfl, P4, K4⟩
        have y2 := K4.cell hG g2'
        clear P3 g1' g2' K4
        obtain ⟨v', hv'⟩ : ∃ v', v' = setG v k ii wd := ⟨_, rfl⟩
        rw [← hv'] at P4
        have HP := Lib.hid P4
        clear P4 hv'
        go_upto_region 22 with fail
        have v'' := v'
        have HW := Lib.hid (fun q => weight_out R X k v' (-1) (by omega) _ (HP.out.a.sh.drewN q))
        have HU := Lib.hid (fun q => used_out R X k v' (k : Int) (by omega) _ (HP.out.a.sh.drewN q))
        clear v''
        go_quiet (first
          | (go_at_call 16; exact quiet_left (sclean_any wd hwd _))
          | (go_at_call 16; exact quiet_add (sclean_any wd hwd _))
          | (go_at_call 27; exact quiet_left (rsclean_any wd hwd _))
          | (go_at_call 27; exact quiet_add (rsclean_any wd hwd _))
          | (go_at_call 19; exact quiet_left (HW.out _))
          | (go_at_call 19; exact quiet_add (HW.out _))
          | (go_at_call 15; exact quiet_left (HU.out _))
          | (go_at_call 15; exact quiet_add (HU.out _))
          | fail)
        have P5 := HP.out.drewN nq
        clear HP HW HU y2
        generalize World.drewN _ nq = W5 at *
        have HP := Lib.hid P5
        clear P5
        go_wp2_with fail
        have P := HP.out
        clear HP
        go_loopw [11] (fun i wr2 => ∃ t : Nat, t ≤ k ∧ i = .int .i64 (t : Int) ∧ Pl w wr2 R X k B R2 Xw Xu Xp v' v') (fun i _ => k - (intOf i).toNat)
        case atStart => exact ⟨0, Nat.zero_le _, rfl, P⟩
        case round =>
          clear P
          obtain ⟨t, ht, rfl, P⟩ := hrel
          by_cases htk : t < k
          · have t1 : (t : Int) < (k : Int) := by omega
            have t0 : (0 : Int) ≤ (t : Int) := by omega
            have s0 := P.b.r0
            have s1 := P.b.r1
            obtain ⟨d0, d1, d2⟩ := P.b.cells t htk
            have HP := Lib.hid P
            have HW := Lib.hid (fun q => weight_in R X k v' t htk _ (P.a.sh.drewN q))
            have HU := Lib.hid (fun q => used_in R X k v' t htk _ (P.a.sh.drewN q))
            clear P d2
            generalize (v' t).w = yw at *
            generalize (v' t).u = yu at *
            go_wp2_with fail
            go_quiet (first
              | (go_at_call 19; exact quiet_left (HW.out _))
              | (go_at_call 19; exact quiet_add (HW.out _))
              | (go_at_call 15; exact quiet_left (HU.out _))
              | (go_at_call 15; exact quiet_add (HU.out _))
              | fail)
            have P6 := HP.out.drewN nq
            clear HP HW HU s0 s1 d0 d1
            generalize World.drewN _ nq = W6 at *
            have HP := Lib.hid P6
            clear P6
            go_wp2_with fail
            exact ⟨⟨t + 1, by omega, by go_num, HP.out⟩, by simp [intOf]; omega⟩
          · obtain rfl : t = k := by omega
            have HP := Lib.hid P
            clear P
            go_wp2_with fail
            exact ⟨⟨j + 1, by omega, by go_num, v', HP.out⟩, by simp [intOf]; omega⟩
      · go_wp2_with fail
        refine (run_gen w W0 R X k B R2 Xw Xu Xp v v ii P0).mono ?_; rintro e W3 ⟨rfl, P3, K3⟩
        have g1' := K3.cell hG g1
        have g2' := K3.cell hG g2
        clear P0 g0 g1 g2 g3 K3
        go_wp2_with fail
        refine (rrun_gen w W3 R X k B R2 Xw Xu Xp _ v ii P3).mono ?_; rintro e W4 ⟨rfl, P4, K4⟩
        have y2 := K4.cell hG g2'
        clear P3 g1' g2' K4
        obtain ⟨v', hv'⟩ : ∃ v', v' = runG v k ii := ⟨_, rfl⟩
        rw [← hv'] at P4
        have HP := Lib.hid P4
        clear P4 hv'
        go_upto_region 22 with fail
        have v'' := v'
        have HW := Lib.hid (fun q => weight_out R X k v' (-1) (by omega) _ (HP.out.a.sh.drewN q))
        have HU := Lib.hid (fun q => used_out R X k v' (k : Int) (by omega) _ (HP.out.a.sh.drewN q))
        clear v''
        go_quiet (first
          | (go_at_call 16; exact quiet_left (sclean_any wd hwd _))
          | (go_at_call 16; exact quiet_add (sclean_any wd hwd _))
          | (go_at_call 27; exact quiet_left (rsclean_any wd hwd _))
          | (go_at_call 27; exact quiet_add (rsclean_any wd hwd _))
          | (go_at_call 19; exact quiet_left (HW.out _))
          | (go_at_call 19; exact quiet_add (HW.out _))
          | (go_at_call 15; exact quiet_left (HU.out _))
          | (go_at_call 15; exact quiet_add (HU.out _))
          | fail)
        have P5 := HP.out.drewN nq
        clear HP HW HU y2
        generalize World.drewN _ nq = W5 at *
        have HP := Lib.hid P5
        clear P5
        go_wp2_with fail
        have P := HP.out
        clear HP
        go_loopw [11] (fun i wr2 => ∃ t : Nat, t ≤ k ∧ i = .int .i64 (t : Int) ∧ Pl w wr2 R X k B R2 Xw Xu Xp v' v') (fun i _ => k - (intOf i).toNat)
        case atStart => exact ⟨0, Nat.zero_le _, rfl, P⟩
        case round =>
          clear P
          obtain ⟨t, ht, rfl, P⟩ := hrel
          by_cases htk : t < k
          · have t1 : (t : Int) < (k : Int) := by omega
            have t0 : (0 : Int) ≤ (t : Int) := by omega
            have s0 := P.b.r0
            have s1 := P.b.r1
            obtain ⟨d0, d1, d2⟩ := P.b.cells t htk
            have HP := Lib.hid P
            have HW := Lib.hid (fun q => weight_in R X k v' t htk _ (P.a.sh.drewN q))
            have HU := Lib.hid (fun q => used_in R X k v' t htk _ (P.a.sh.drewN q))
            clear P d2
            generalize (v' t).w = yw at *
            generalize (v' t).u = yu at *
            go_wp2_with fail
            go_quiet (first
              | (go_at_call 19; exact quiet_left (HW.out _))
              | (go_at_call 19; exact quiet_add (HW.out _))
              | (go_at_call 15; exact quiet_left (HU.out _))
              | (go_at_call 15; exact quiet_add (HU.out _))
              | fail)
            have P6 := HP.out.drewN nq
            clear HP HW HU s0 s1 d0 d1
            generalize World.drewN _ nq = W6 at *
            have HP := Lib.hid P6
            clear P6
            go_wp2_with fail
            exact ⟨⟨t + 1, by omega, by go_num, HP.out⟩, by simp [intOf]; omega⟩
          · obtain rfl : t = k := by omega
            have HP := Lib.hid P
            clear P
            go_wp2_with fail
            exact ⟨⟨j + 1, by omega, by go_num, v', HP.out⟩, by simp [intOf]; omega⟩
      · go_wp2_with fail
        refine (halve_gen w W0 R X k B R2 Xw Xu Xp v v P0).mono ?_; rintro e W3 ⟨rfl, P3, K3⟩
        have g1' := K3.cell hG g1
        have g2' := K3.cell hG g2
        clear P0 g0 g1 g2 g3 K3
        go_wp2_with fail
        refine (rhalve_gen w W3 R X k B R2 Xw Xu Xp _ v P3).mono ?_; rintro e W4 ⟨rfl, P4, K4⟩
        have y2 := K4.cell hG g2'
        clear P3 g1' g2' K4
        obtain ⟨v', hv'⟩ : ∃ v', v' = halved v k := ⟨_, rfl⟩
        rw [← hv'] at P4
        have HP := Lib.hid P4
        clear P4 hv'
        go_upto_region 22 with fail
        have v'' := v'
        have HW := Lib.hid (fun q => weight_out R X k v' (-1) (by omega) _ (HP.out.a.sh.drewN q))
        have HU := Lib.hid (fun q => used_out R X k v' (k : Int) (by omega) _ (HP.out.a.sh.drewN q))
        clear v''
        go_quiet (first
          | (go_at_call 16; exact quiet_left (sclean_any wd hwd _))
          | (go_at_call 16; exact quiet_add (sclean_any wd hwd _))
          | (go_at_call 27; exact quiet_left (rsclean_any wd hwd _))
          | (go_at_call 27; exact quiet_add (rsclean_any wd hwd _))
          | (go_at_call 19; exact quiet_left (HW.out _))
          | (go_at_call 19; exact quiet_add (HW.out _))
          | (go_at_call 15; exact quiet_left (HU.out _))
          | (go_at_call 15; exact quiet_add (HU.out _))
          | fail)
        have P5 := HP.out.drewN nq
        clear HP HW HU y2
        generalize World.drewN _ nq = W5 at *
        have HP := Lib.hid P5
        clear P5
        go_wp2_with fail
        have P := HP.out
        clear HP
        go_loopw [11] (fun i wr2 => ∃ t : Nat, t ≤ k ∧ i = .int .i64 (t : Int) ∧ Pl w wr2 R X k B R2 Xw Xu Xp v' v') (fun i _ => k - (intOf i).toNat)
        case atStart => exact ⟨0, Nat.zero_le _, rfl, P⟩
        case round =>
          clear P
          obtain ⟨t, ht, rfl, P⟩ := hrel
          by_cases htk : t < k
          · have t1 : (t : Int) < (k : Int) := by omega
            have t0 : (0 : Int) ≤ (t : Int) := by omega
            have s0 := P.b.r0
            have s1 := P.b.r1
            obtain ⟨d0, d1, d2⟩ := P.b.cells t htk
            have HP := Lib.hid P
            have HW := Lib.hid (fun q => weight_in R X k v' t htk _ (P.a.sh.drewN q))
            have HU := Lib.hid (fun q => used_in R X k v' t htk _ (P.a.sh.drewN q))
            clear P d2
            generalize (v' t).w = yw at *
            generalize (v' t).u = yu at *
            go_wp2_with fail
            go_quiet (first
              | (go_at_call 19; exact quiet_left (HW.out _))
              | (go_at_call 19; exact quiet_add (HW.out _))
              | (go_at_call 15; exact quiet_left (HU.out _))
              | (go_at_call 15; exact quiet_add (HU.out _))
              | fail)
            have P6 := HP.out.drewN nq
            clear HP HW HU s0 s1 d0 d1
            generalize World.drewN _ nq = W6 at *
            have HP := Lib.hid P6
            clear P6
            go_wp2_with fail
            exact ⟨⟨t + 1, by omega, by go_num, HP.out⟩, by simp [intOf]; omega⟩
          · obtain rfl : t = k := by omega
            have HP := Lib.hid P
            clear P
            go_wp2_with fail
            exact ⟨⟨j + 1, by omega, by go_num, v', HP.out⟩, by simp [intOf]; omega⟩
      · rcases hrow with ⟨rfl, rfl, rfl, rfl⟩ | ⟨y, rfl, h1, h2, h3, hcell, _⟩
        · have O0 := own_none (B := W0.heap.size) (W := W0) (Nat.le_refl _)
          have OL0 : OL W0.heap.size (W0.alloc (.cells #[] 3)) (.slice (some ⟨W0.heap.size, 0, none⟩) 0 0) [] := O0
          have hBB := P0.a.bw
          have hGW : G < W0.heap.size := cell_block_lt g0
          have PA := P0.alloc (.cells #[] 3)
          have bA : Below W0.heap.size W0 (W0.alloc (.cells #[] 3)) := (Below.refl _ _).alloc (Nat.le_refl _) _
          have gA2 := (bA.cell hGW).trans g2
          have hAs : W0.heap.size ≤ (W0.alloc (.cells #[] 3)).heap.size := bA.size
          have hbelA := PA.a.bel
          go_wp2_with (first
            | (at_builtin; refine wpList_append_own_none rfl _ _ 27 rfl W0.heap.size 3 i0 1 Try.underlying27 hi _ _ _ rfl O0 rfl ?_)
            | fail)
          have S1 := PA
          have O1 := OL0
          have y2 := gA2
          clear PA O0 OL0 gA2 P0 g0 g1 g2 g3 bA hAs
          generalize W0.alloc (.cells #[] 3) = W1 at *
          obtain ⟨a, c, e, ir, hbl⟩ := O1.ir
          simp only [List.length_nil] at e
          have ea : a = some (⟨W0.heap.size, 0, none⟩ : Addr) := by injection e with e1; exact e1.symm
          have ec : c = 0 := by injection e with _ _ e3; exact e3.symm
          rw [ea] at ir hbl
          clear ea ec e
          have hbl2 : ∀ x, (some (⟨W0.heap.size, 0, none⟩ : Addr)) = some x → B ≤ x.block := fun x hx => by have := hbl x hx; omega
          have hps9 : (([] : List Int)).length ≤ 1000000 := by simp <;> omega
          have Hpa := Lib.hid (pick_gen w W1 R X k B R2 Xw Xu Xp v v (some (⟨W0.heap.size, 0, none⟩ : Addr)) (([] : List Int)).length 0 _ hps9 S1 ir hbl2)
          have Hpb := Lib.hid (fun W v1 (h : Pl w W R X k B R2 Xw Xu Xp v1 v) hir => rpick_gen w W R X k B R2 Xw Xu Xp v1 v (some (⟨W0.heap.size, 0, none⟩ : Addr)) (([] : List Int)).length 0 (fun i => (([] : List Int)).getD i 0) hps9 h hir)
          have Hir := Lib.hid (And.intro ir hbl2)
          clear O1 ir hbl hbl2 hps9 S1
          simp only [List.length_nil] at *
          generalize (fun i => (([] : List Int)).getD i 0) = z at *
          generalize hrr : obI (bst (fun i : Nat => decide (iHas z 0 (i : Int))) v k) = rr at *
          clear hrr
          go_wp2_with fail
          refine Hpa.out.mono ?_; rintro e W3 ⟨rfl, P3, K3⟩
          have y3 := K3.cell hG y2
          have ir3 := K3.ir Hir.out.1 Hir.out.2
          clear Hpa K3 y2
          go_wp2_with fail
          refine (Hpb.out W3 _ P3 ir3).mono ?_; rintro e W4 ⟨rfl, P4, K4⟩
          have y2 := K4.cell hG y3
          clear Hpb P3 K4 y3 ir3 Hir
          obtain ⟨v', hv'⟩ : ∃ v', v' = pickV v (fun i : Nat => decide (iHas z 0 (i : Int))) k := ⟨_, rfl⟩
          rw [← hv'] at P4
          have HP := Lib.hid P4
          clear P4 hv'
          go_upto_region 22 with fail
          have v'' := v'
          have HW := Lib.hid (fun q => weight_out R X k v' (-1) (by omega) _ (HP.out.a.sh.drewN q))
          have HU := Lib.hid (fun q => used_out R X k v' (k : Int) (by omega) _ (HP.out.a.sh.drewN q))
          clear v''
          go_quiet (first
            | (go_at_call 16; exact quiet_left (sclean_any wd hwd _))
            | (go_at_call 16; exact quiet_add (sclean_any wd hwd _))
            | (go_at_call 27; exact quiet_left (rsclean_any wd hwd _))
            | (go_at_call 27; exact quiet_add (rsclean_any wd hwd _))
            | (go_at_call 19; exact quiet_left (HW.out _))
            | (go_at_call 19; exact quiet_add (HW.out _))
            | (go_at_call 15; exact quiet_left (HU.out _))
            | (go_at_call 15; exact quiet_add (HU.out _))
            | fail)
          have P5 := HP.out.drewN nq
          clear HP HW HU y2
          generalize World.drewN _ nq = W5 at *
          have HP := Lib.hid P5
          clear P5
          go_wp2_with fail
          have P := HP.out
          clear HP
          go_loopw [11] (fun i wr2 => ∃ t : Nat, t ≤ k ∧ i = .int .i64 (t : Int) ∧ Pl w wr2 R X k B R2 Xw Xu Xp v' v') (fun i _ => k - (intOf i).toNat)
          case atStart => exact ⟨0, Nat.zero_le _, rfl, P⟩
          case round =>
            clear P
            obtain ⟨t, ht, rfl, P⟩ := hrel
            by_cases htk : t < k
            · have t1 : (t : Int) < (k : Int) := by omega
              have t0 : (0 : Int) ≤ (t : Int) := by omega
              have s0 := P.b.r0
              have s1 := P.b.r1
              obtain ⟨d0, d1, d2⟩ := P.b.cells t htk
              have HP := Lib.hid P
              have HW := Lib.hid (fun q => weight_in R X k v' t htk _ (P.a.sh.drewN q))
              have HU := Lib.hid (fun q => used_in R X k v' t htk _ (P.a.sh.drewN q))
              clear P d2
              generalize (v' t).w = yw at *
              generalize (v' t).u = yu at *
              go_wp2_with fail
              go_quiet (first
                | (go_at_call 19; exact quiet_left (HW.out _))
                | (go_at_call 19; exact quiet_add (HW.out _))
                | (go_at_call 15; exact quiet_left (HU.out _))
                | (go_at_call 15; exact quiet_add (HU.out _))
                | fail)
              have P6 := HP.out.drewN nq
              clear HP HW HU s0 s1 d0 d1
              generalize World.drewN _ nq = W6 at *
              have HP := Lib.hid P6
              clear P6
              go_wp2_with fail
              exact ⟨⟨t + 1, by omega, by go_num, HP.out⟩, by simp [intOf]; omega⟩
            · obtain rfl : t = k := by omega
              have HP := Lib.hid P
              clear P
              go_wp2_with fail
              exact ⟨⟨j + 1, by omega, by go_num, v', HP.out⟩, by simp [intOf]; omega⟩
        · rcases (show ln = 0 ∨ (0 < ln ∧ ln ≤ 8) ∨ 8 < ln by omega) with rfl | ⟨p8, h8⟩ | h8
          · have O0 := own_none (B := W0.heap.size) (W := W0) (Nat.le_refl _)
            have OL0 : OL W0.heap.size (W0.alloc (.cells #[] 3)) (.slice (some ⟨W0.heap.size, 0, none⟩) 0 0) [] := O0
            have hBB := P0.a.bw
            have hGW : G < W0.heap.size := cell_block_lt g0
            have PA := P0.alloc (.cells #[] 3)
            have bA : Below W0.heap.size W0 (W0.alloc (.cells #[] 3)) := (Below.refl _ _).alloc (Nat.le_refl _) _
            have gA2 := (bA.cell hGW).trans g2
            have hAs : W0.heap.size ≤ (W0.alloc (.cells #[] 3)).heap.size := bA.size
            have hbelA := PA.a.bel
            have hnew : ∀ j u, ((zs.take 0).map (Value.int .i64))[j]? = some u → (W0.alloc (.cells #[] 3)).cell? (y.add j) = some u := by
              intro j u hj
              have hlt : j < 0 := by
                have := (List.getElem?_eq_some_iff.1 hj).1
                simp at this <;> omega
              have h1 := hcell j (by omega)
              have h2 := (hbelA.cell (cell_block_lt h1)).trans h1
              rw [h2]
              simp only [List.getElem?_map, List.getElem?_take] at hj
              rw [if_pos hlt, List.getElem?_eq_getElem (by omega)] at hj
              simp at hj
              rw [← hj]
              simp [List.getD, List.getElem?_eq_getElem (show j < zs.length by omega)]
            have hlen : ((zs.take 0).map (Value.int .i64)).length = 0 * 1 := by simp <;> omega
            have hone : ∀ u ∈ (zs.take 0).map (Value.int .i64), u.oneCell' = true := by
              intro u hu
              obtain ⟨q, _, rfl⟩ := List.mem_map.1 hu
              rfl
            have hlenp : (zs.take 0).length = 0 := by simp <;> omega
            have Hh := Lib.hid (And.intro hnew (And.intro hlen (And.intro hone hlenp)))
            clear hnew hlen hone hlenp hcell hbelA
            go_wp2_with (first
              | (at_builtin; refine wpList_append_own _ rfl _ _ 27 rfl W0.heap.size 3 i0 (.int .i64 0) 1 8 Try.underlying27 hi hz0 hz1 hz2 rfl (by decide) _ _ _ rfl O0 y 0 lc ((zs.take 0).map (Value.int .i64)) rfl Hh.out.2.1 Hh.out.1 Hh.out.2.2.1 (by unfold maxLen; omega) (by omega) (by simp) ?_)
              | fail)
            intro v' W1 hown' hgrow _
            have bel1 : Below W0.heap.size W0 W1 := bA.grown hgrow hAs (fun j hj => by have := (World.ownsRow.lt O0 j hj).1; omega)
            have O1 : OL W0.heap.size W1 v' (zs.take 0) := by
              unfold OL
              rw [Hh.out.2.2.2]
              simpa using hown'
            have S1 := P0.below (bel1.mono hBB)
            have y2 := (bel1.cell hGW).trans g2
            clear hown' hgrow Hh O0 OL0 PA gA2 P0 g0 g1 g2 g3 bA hAs bel1
            obtain ⟨a, c, rfl, ir, hbl⟩ := O1.ir
            have hbl2 : ∀ x, a = some x → B ≤ x.block := fun x hx => by have := hbl x hx; omega
            have hps9 : (zs.take 0).length ≤ 1000000 := by simp <;> omega
            have Hpa := Lib.hid (pick_gen w W1 R X k B R2 Xw Xu Xp v v a (zs.take 0).length c _ hps9 S1 ir hbl2)
            have Hpb := Lib.hid (fun W v1 (h : Pl w W R X k B R2 Xw Xu Xp v1 v) hir => rpick_gen w W R X k B R2 Xw Xu Xp v1 v a (zs.take 0).length c (fun i => (zs.take 0).getD i 0) hps9 h hir)
            have Hir := Lib.hid (And.intro ir hbl2)
            clear O1 ir hbl hbl2 hps9 S1
            generalize (zs.take 0).length = n at *
            generalize (fun i => (zs.take 0).getD i 0) = z at *
            generalize hrr : obI (bst (fun i : Nat => decide (iHas z n (i : Int))) v k) = rr at *
            clear hrr
            go_wp2_with fail
            refine Hpa.out.mono ?_; rintro e W3 ⟨rfl, P3, K3⟩
            have y3 := K3.cell hG y2
            have ir3 := K3.ir Hir.out.1 Hir.out.2
            clear Hpa K3 y2
            go_wp2_with fail
            refine (Hpb.out W3 _ P3 ir3).mono ?_; rintro e W4 ⟨rfl, P4, K4⟩
            have y2 := K4.cell hG y3
            clear Hpb P3 K4 y3 ir3 Hir
            obtain ⟨v', hv'⟩ : ∃ v', v' = pickV v (fun i : Nat => decide (iHas z n (i : Int))) k := ⟨_, rfl⟩
            rw [← hv'] at P4
            have HP := Lib.hid P4
            clear P4 hv'
            go_upto_region 22 with fail
            have v'' := v'
            have HW := Lib.hid (fun q => weight_out R X k v' (-1) (by omega) _ (HP.out.a.sh.drewN q))
            have HU := Lib.hid (fun q => used_out R X k v' (k : Int) (by omega) _ (HP.out.a.sh.drewN q))
            clear v''
            go_quiet (first
              | (go_at_call 16; exact quiet_left (sclean_any wd hwd _))
              | (go_at_call 16; exact quiet_add (sclean_any wd hwd _))
              | (go_at_call 27; exact quiet_left (rsclean_any wd hwd _))
              | (go_at_call 27; exact quiet_add (rsclean_any wd hwd _))
              | (go_at_call 19; exact quiet_left (HW.out _))
              | (go_at_call 19; exact quiet_add (HW.out _))
              | (go_at_call 15; exact quiet_left (HU.out _))
              | (go_at_call 15; exact quiet_add (HU.out _))
              | fail)
            have P5 := HP.out.drewN nq
            clear HP HW HU y2
            generalize World.drewN _ nq = W5 at *
            have HP := Lib.hid P5
            clear P5
            go_wp2_with fail
            have P := HP.out
            clear HP
            go_loopw [11] (fun i wr2 => ∃ t : Nat, t ≤ k ∧ i = .int .i64 (t : Int) ∧ Pl w wr2 R X k B R2 Xw Xu Xp v' v') (fun i _ => k - (intOf i).toNat)
            case atStart => exact ⟨0, Nat.zero_le _, rfl, P⟩
            case round =>
              clear P
              obtain ⟨t, ht, rfl, P⟩ := hrel
              by_cases htk : t < k
              · have t1 : (t : Int) < (k : Int) := by omega
                have t0 : (0 : Int) ≤ (t : Int) := by omega
                have s0 := P.b.r0
                have s1 := P.b.r1
                obtain ⟨d0, d1, d2⟩ := P.b.cells t htk
                have HP := Lib.hid P
                have HW := Lib.hid (fun q => weight_in R X k v' t htk _ (P.a.sh.drewN q))
                have HU := Lib.hid (fun q => used_in R X k v' t htk _ (P.a.sh.drewN q))
                clear P d2
                generalize (v' t).w = yw at *
                generalize (v' t).u = yu at *
                go_wp2_with fail
                go_quiet (first
                  | (go_at_call 19; exact quiet_left (HW.out _))
                  | (go_at_call 19; exact quiet_add (HW.out _))
                  | (go_at_call 15; exact quiet_left (HU.out _))
                  | (go_at_call 15; exact quiet_add (HU.out _))
                  | fail)
                have P6 := HP.out.drewN nq
                clear HP HW HU s0 s1 d0 d1
                generalize World.drewN _ nq = W6 at *
                have HP := Lib.hid P6
                clear P6
                go_wp2_with fail
                exact ⟨⟨t + 1, by omega, by go_num, HP.out⟩, by simp [intOf]; omega⟩
              · obtain rfl : t = k := by omega
                have HP := Lib.hid P
                clear P
                go_wp2_with fail
                exact ⟨⟨j + 1, by omega, by go_num, v', HP.out⟩, by simp [intOf]; omega⟩
          · have l8 : (ln : Int) ≤ 8 := by omega
            have e8 : ¬ ln = 0 := by omega
            have O0 := own_none (B := W0.heap.size) (W := W0) (Nat.le_refl _)
            have OL0 : OL W0.heap.size (W0.alloc (.cells #[] 3)) (.slice (some ⟨W0.heap.size, 0, none⟩) 0 0) [] := O0
            have hBB := P0.a.bw
            have hGW : G < W0.heap.size := cell_block_lt g0
            have PA := P0.alloc (.cells #[] 3)
            have bA : Below W0.heap.size W0 (W0.alloc (.cells #[] 3)) := (Below.refl _ _).alloc (Nat.le_refl _) _
            have gA2 := (bA.cell hGW).trans g2
            have hAs : W0.heap.size ≤ (W0.alloc (.cells #[] 3)).heap.size := bA.size
            have hbelA := PA.a.bel
            have hnew : ∀ j u, ((zs.take ln).map (Value.int .i64))[j]? = some u → (W0.alloc (.cells #[] 3)).cell? (y.add j) = some u := by
              intro j u hj
              have hlt : j < ln := by
                have := (List.getElem?_eq_some_iff.1 hj).1
                simp at this <;> omega
              have h1 := hcell j (by omega)
              have h2 := (hbelA.cell (cell_block_lt h1)).trans h1
              rw [h2]
              simp only [List.getElem?_map, List.getElem?_take] at hj
              rw [if_pos hlt, List.getElem?_eq_getElem (by omega)] at hj
              simp at hj
              rw [← hj]
              simp [List.getD, List.getElem?_eq_getElem (show j < zs.length by omega)]
            have hlen : ((zs.take ln).map (Value.int .i64)).length = ln * 1 := by simp <;> omega
            have hone : ∀ u ∈ (zs.take ln).map (Value.int .i64), u.oneCell' = true := by
              intro u hu
              obtain ⟨q, _, rfl⟩ := List.mem_map.1 hu
              rfl
            have hlenp : (zs.take ln).length = ln := by simp <;> omega
            have Hh := Lib.hid (And.intro hnew (And.intro hlen (And.intro hone hlenp)))
            clear hnew hlen hone hlenp hcell hbelA
            go_wp2_with (first
              | (at_builtin; refine wpList_append_own _ rfl _ _ 27 rfl W0.heap.size 3 i0 (.int .i64 0) 1 8 Try.underlying27 hi hz0 hz1 hz2 rfl (by decide) _ _ _ rfl O0 y ln lc ((zs.take ln).map (Value.int .i64)) rfl Hh.out.2.1 Hh.out.1 Hh.out.2.2.1 (by unfold maxLen; omega) (by omega) (by simp) ?_)
              | fail)
            intro v' W1 hown' hgrow _
            have bel1 : Below W0.heap.size W0 W1 := bA.grown hgrow hAs (fun j hj => by have := (World.ownsRow.lt O0 j hj).1; omega)
            have O1 : OL W0.heap.size W1 v' (zs.take ln) := by
              unfold OL
              rw [Hh.out.2.2.2]
              simpa using hown'
            have S1 := P0.below (bel1.mono hBB)
            have y2 := (bel1.cell hGW).trans g2
            clear hown' hgrow Hh O0 OL0 PA gA2 P0 g0 g1 g2 g3 bA hAs bel1
            obtain ⟨a, c, rfl, ir, hbl⟩ := O1.ir
            have hbl2 : ∀ x, a = some x → B ≤ x.block := fun x hx => by have := hbl x hx; omega
            have hps9 : (zs.take ln).length ≤ 1000000 := by simp <;> omega
            have Hpa := Lib.hid (pick_gen w W1 R X k B R2 Xw Xu Xp v v a (zs.take ln).length c _ hps9 S1 ir hbl2)
            have Hpb := Lib.hid (fun W v1 (h : Pl w W R X k B R2 Xw Xu Xp v1 v) hir => rpick_gen w W R X k B R2 Xw Xu Xp v1 v a (zs.take ln).length c (fun i => (zs.take ln).getD i 0) hps9 h hir)
            have Hir := Lib.hid (And.intro ir hbl2)
            clear O1 ir hbl hbl2 hps9 S1
            generalize (zs.take ln).length = n at *
            generalize (fun i => (zs.take ln).getD i 0) = z at *
            generalize hrr : obI (bst (fun i : Nat => decide (iHas z n (i : Int))) v k) = rr at *
            clear hrr
            go_wp2_with fail
            refine Hpa.out.mono ?_; rintro e W3 ⟨rfl, P3, K3⟩
            have y3 := K3.cell hG y2
            have ir3 := K3.ir Hir.out.1 Hir.out.2
            clear Hpa K3 y2
            go_wp2_with fail
            refine (Hpb.out W3 _ P3 ir3).mono ?_; rintro e W4 ⟨rfl, P4, K4⟩
            have y2 := K4.cell hG y3
            clear Hpb P3 K4 y3 ir3 Hir
            obtain ⟨v', hv'⟩ : ∃ v', v' = pickV v (fun i : Nat => decide (iHas z n (i : Int))) k := ⟨_, rfl⟩
            rw [← hv'] at P4
            have HP := Lib.hid P4
            clear P4 hv'
            go_upto_region 22 with fail
            have v'' := v'
            have HW := Lib.hid (fun q => weight_out R X k v' (-1) (by omega) _ (HP.out.a.sh.drewN q))
            have HU := Lib.hid (fun q => used_out R X k v' (k : Int) (by omega) _ (HP.out.a.sh.drewN q))
            clear v''
            go_quiet (first
              | (go_at_call 16; exact quiet_left (sclean_any wd hwd _))
              | (go_at_call 16; exact quiet_add (sclean_any wd hwd _))
              | (go_at_call 27; exact quiet_left (rsclean_any wd hwd _))
              | (go_at_call 27; exact quiet_add (rsclean_any wd hwd _))
              | (go_at_call 19; exact quiet_left (HW.out _))
              | (go_at_call 19; exact quiet_add (HW.out _))
              | (go_at_call 15; exact quiet_left (HU.out _))
              | (go_at_call 15; exact quiet_add (HU.out _))
              | fail)
            have P5 := HP.out.drewN nq
            clear HP HW HU y2
            generalize World.drewN _ nq = W5 at *
            have HP := Lib.hid P5
            clear P5
            go_wp2_with fail
            have P := HP.out
            clear HP
            go_loopw [11] (fun i wr2 => ∃ t : Nat, t ≤ k ∧ i = .int .i64 (t : Int) ∧ Pl w wr2 R X k B R2 Xw Xu Xp v' v') (fun i _ => k - (intOf i).toNat)
            case atStart => exact ⟨0, Nat.zero_le _, rfl, P⟩
            case round =>
              clear P
              obtain ⟨t, ht, rfl, P⟩ := hrel
              by_cases htk : t < k
              · have t1 : (t : Int) < (k : Int) := by omega
                have t0 : (0 : Int) ≤ (t : Int) := by omega
                have s0 := P.b.r0
                have s1 := P.b.r1
                obtain ⟨d0, d1, d2⟩ := P.b.cells t htk
                have HP := Lib.hid P
                have HW := Lib.hid (fun q => weight_in R X k v' t htk _ (P.a.sh.drewN q))
                have HU := Lib.hid (fun q => used_in R X k v' t htk _ (P.a.sh.drewN q))
                clear P d2
                generalize (v' t).w = yw at *
                generalize (v' t).u = yu at *
                go_wp2_with fail
                go_quiet (first
                  | (go_at_call 19; exact quiet_left (HW.out _))
                  | (go_at_call 19; exact quiet_add (HW.out _))
                  | (go_at_call 15; exact quiet_left (HU.out _))
                  | (go_at_call 15; exact quiet_add (HU.out _))
                  | fail)
                have P6 := HP.out.drewN nq
                clear HP HW HU s0 s1 d0 d1
                generalize World.drewN _ nq = W6 at *
                have HP := Lib.hid P6
                clear P6
                go_wp2_with fail
                exact ⟨⟨t + 1, by omega, by go_num, HP.out⟩, by simp [intOf]; omega⟩
              · obtain rfl : t = k := by omega
                have HP := Lib.hid P
                clear P
                go_wp2_with fail
                exact ⟨⟨j + 1, by omega, by go_num, v', HP.out⟩, by simp [intOf]; omega⟩
          · have l8 : (8 : Int) < (ln : Int) := by omega
            have e8 : 8 ≤ lc := by omega
            have e9 : (8 : Int) ≤ (lc : Int) := by omega
            have O0 := own_none (B := W0.heap.size) (W := W0) (Nat.le_refl _)
            have OL0 : OL W0.heap.size (W0.alloc (.cells #[] 3)) (.slice (some ⟨W0.heap.size, 0, none⟩) 0 0) [] := O0
            have hBB := P0.a.bw
            have hGW : G < W0.heap.size := cell_block_lt g0
            have PA := P0.alloc (.cells #[] 3)
            have bA : Below W0.heap.size W0 (W0.alloc (.cells #[] 3)) := (Below.refl _ _).alloc (Nat.le_refl _) _
            have gA2 := (bA.cell hGW).trans g2
            have hAs : W0.heap.size ≤ (W0.alloc (.cells #[] 3)).heap.size := bA.size
            have hbelA := PA.a.bel
            have hnew : ∀ j u, ((zs.take 8).map (Value.int .i64))[j]? = some u → (W0.alloc (.cells #[] 3)).cell? (y.add j) = some u := by
              intro j u hj
              have hlt : j < 8 := by
                have := (List.getElem?_eq_some_iff.1 hj).1
                simp at this <;> omega
              have h1 := hcell j (by omega)
              have h2 := (hbelA.cell (cell_block_lt h1)).trans h1
              rw [h2]
              simp only [List.getElem?_map, List.getElem?_take] at hj
              rw [if_pos hlt, List.getElem?_eq_getElem (by omega)] at hj
              simp at hj
              rw [← hj]
              simp [List.getD, List.getElem?_eq_getElem (show j < zs.length by omega)]
            have hlen : ((zs.take 8).map (Value.int .i64)).length = 8 * 1 := by simp <;> omega
            have hone : ∀ u ∈ (zs.take 8).map (Value.int .i64), u.oneCell' = true := by
              intro u hu
              obtain ⟨q, _, rfl⟩ := List.mem_map.1 hu
              rfl
            have hlenp : (zs.take 8).length = 8 := by simp <;> omega
            have Hh := Lib.hid (And.intro hnew (And.intro hlen (And.intro hone hlenp)))
            clear hnew hlen hone hlenp hcell hbelA
            go_wp2_with (first
              | (at_builtin; refine wpList_append_own _ rfl _ _ 27 rfl W0.heap.size 3 i0 (.int .i64 0) 1 8 Try.underlying27 hi hz0 hz1 hz2 rfl (by decide) _ _ _ rfl O0 y 8 lc ((zs.take 8).map (Value.int .i64)) rfl Hh.out.2.1 Hh.out.1 Hh.out.2.2.1 (by unfold maxLen; omega) (by omega) (by simp) ?_)
              | fail)
            intro v' W1 hown' hgrow _
            have bel1 : Below W0.heap.size W0 W1 := bA.grown hgrow hAs (fun j hj => by have := (World.ownsRow.lt O0 j hj).1; omega)
            have O1 : OL W0.heap.size W1 v' (zs.take 8) := by
              unfold OL
              rw [Hh.out.2.2.2]
              simpa using hown'
            have S1 := P0.below (bel1.mono hBB)
            have y2 := (bel1.cell hGW).trans g2
            clear hown' hgrow Hh O0 OL0 PA gA2 P0 g0 g1 g2 g3 bA hAs bel1
            obtain ⟨a, c, rfl, ir, hbl⟩ := O1.ir
            have hbl2 : ∀ x, a = some x → B ≤ x.block := fun x hx => by have := hbl x hx; omega
            have hps9 : (zs.take 8).length ≤ 1000000 := by simp <;> omega
            have Hpa := Lib.hid (pick_gen w W1 R X k B R2 Xw Xu Xp v v a (zs.take 8).length c _ hps9 S1 ir hbl2)
            have Hpb := Lib.hid (fun W v1 (h : Pl w W R X k B R2 Xw Xu Xp v1 v) hir => rpick_gen w W R X k B R2 Xw Xu Xp v1 v a (zs.take 8).length c (fun i => (zs.take 8).getD i 0) hps9 h hir)
            have Hir := Lib.hid (And.intro ir hbl2)
            clear O1 ir hbl hbl2 hps9 S1
            generalize (zs.take 8).length = n at *
            generalize (fun i => (zs.take 8).getD i 0) = z at *
            generalize hrr : obI (bst (fun i : Nat => decide (iHas z n (i : Int))) v k) = rr at *
            clear hrr
            go_wp2_with fail
            refine Hpa.out.mono ?_; rintro e W3 ⟨rfl, P3, K3⟩
            have y3 := K3.cell hG y2
            have ir3 := K3.ir Hir.out.1 Hir.out.2
            clear Hpa K3 y2
            go_wp2_with fail
            refine (Hpb.out W3 _ P3 ir3).mono ?_; rintro e W4 ⟨rfl, P4, K4⟩
            have y2 := K4.cell hG y3
            clear Hpb P3 K4 y3 ir3 Hir
            obtain ⟨v', hv'⟩ : ∃ v', v' = pickV v (fun i : Nat => decide (iHas z n (i : Int))) k := ⟨_, rfl⟩
            rw [← hv'] at P4
            have HP := Lib.hid P4
            clear P4 hv'
            go_upto_region 22 with fail
            have v'' := v'
            have HW := Lib.hid (fun q => weight_out R X k v' (-1) (by omega) _ (HP.out.a.sh.drewN q))
            have HU := Lib.hid (fun q => used_out R X k v' (k : Int) (by omega) _ (HP.out.a.sh.drewN q))
            clear v''
            go_quiet (first
              | (go_at_call 16; exact quiet_left (sclean_any wd hwd _))
              | (go_at_call 16; exact quiet_add (sclean_any wd hwd _))
              | (go_at_call 27; exact quiet_left (rsclean_any wd hwd _))
              | (go_at_call 27; exact quiet_add (rsclean_any wd hwd _))
              | (go_at_call 19; exact quiet_left (HW.out _))
              | (go_at_call 19; exact quiet_add (HW.out _))
              | (go_at_call 15; exact quiet_left (HU.out _))
              | (go_at_call 15; exact quiet_add (HU.out _))
              | fail)
            have P5 := HP.out.drewN nq
            clear HP HW HU y2
            generalize World.drewN _ nq = W5 at *
            have HP := Lib.hid P5
            clear P5
            go_wp2_with fail
            have P := HP.out
            clear HP
            go_loopw [11] (fun i wr2 => ∃ t : Nat, t ≤ k ∧ i = .int .i64 (t : Int) ∧ Pl w wr2 R X k B R2 Xw Xu Xp v' v') (fun i _ => k - (intOf i).toNat)
            case atStart => exact ⟨0, Nat.zero_le _, rfl, P⟩
            case round =>
              clear P
              obtain ⟨t, ht, rfl, P⟩ := hrel
              by_cases htk : t < k
              · have t1 : (t : Int) < (k : Int) := by omega
                have t0 : (0 : Int) ≤ (t : Int) := by omega
                have s0 := P.b.r0
                have s1 := P.b.r1
                obtain ⟨d0, d1, d2⟩ := P.b.cells t htk
                have HP := Lib.hid P
                have HW := Lib.hid (fun q => weight_in R X k v' t htk _ (P.a.sh.drewN q))
                have HU := Lib.hid (fun q => used_in R X k v' t htk _ (P.a.sh.drewN q))
                clear P d2
                generalize (v' t).w = yw at *
                generalize (v' t).u = yu at *
                go_wp2_with fail
                go_quiet (first
                  | (go_at_call 19; exact quiet_left (HW.out _))
                  | (go_at_call 19; exact quiet_add (HW.out _))
                  | (go_at_call 15; exact quiet_left (HU.out _))
                  | (go_at_call 15; exact quiet_add (HU.out _))
                  | fail)
                have P6 := HP.out.drewN nq
                clear HP HW HU s0 s1 d0 d1
                generalize World.drewN _ nq = W6 at *
                have HP := Lib.hid P6
                clear P6
                go_wp2_with fail
                exact ⟨⟨t + 1, by omega, by go_num, HP.out⟩, by simp [intOf]; omega⟩
              · obtain rfl : t = k := by omega
                have HP := Lib.hid P
                clear P
                go_wp2_with fail
                exact ⟨⟨j + 1, by omega, by go_num, v', HP.out⟩, by simp [intOf]; omega⟩
    · have hq : (len1 : Int) ≤ (j : Int) ∨ ((j : Int) < (len1 : Int) ∧ (80 : Int) ≤ (j : Int)) := by omega
      have l0 : (0 : Int) ≤ (j : Int) := by omega
      have HP := Lib.hid P
      clear hlt w1 P
      rcases hq with hq | ⟨hq, hq2⟩
      all_goals
        go_wp2_with fail
        refine (runs_any wr).mono ?_; rintro e1 W5 ⟨rfl, t5⟩
        have bF := HP.out.a.bel.trans (t5.mono HP.out.a.bel.size)
        clear HP t5
        go_wp2_with fail
        go_ret
        exact ⟨rfl, bF⟩
end Go.Proofs.Ytdpgpnjjonhdhaa.St
