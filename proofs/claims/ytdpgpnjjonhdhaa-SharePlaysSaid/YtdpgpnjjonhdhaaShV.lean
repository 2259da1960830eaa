/- ShareHalves: halving what all used changes no pick that is to come, as long as nobody was passed over. No condition but those written in each statement. -/
import Derived.Test.YtdpgpnjjonhdhaaShH
namespace Go.Proofs.Ytdpgpnjjonhdhaa.St
open Go.RowKit Go.Proofs.Ytdpgpnjjonhdhaa.Fp
set_option linter.unusedVariables false

theorem row_at {k : IntKind} {w : World} {a : Option Addr} {len cap : Nat} {zs : List Int} (h : IsRow k w a len cap zs) (i : Nat) (hi : i < len) : ∃ x, a = some x ∧ w.cell? (x.add i) = some (.int k (zs.getD i 0)) ∧ (Lit.int k (zs.getD i 0)).wf = true := by
  rcases h with ⟨_, h0, _⟩ | ⟨x, e, h1, h2, h3, h4, h5⟩
  · omega
  · refine ⟨x, e, h4 i (by omega), h5 _ ?_⟩
    simp [List.getD, List.getElem?_eq_getElem (show i < zs.length by omega)]
theorem row_len {k : IntKind} {w : World} {a : Option Addr} {len cap : Nat} {zs : List Int} (h : IsRow k w a len cap zs) : len ≤ maxLen := by
  rcases h with ⟨_, h0, _⟩ | ⟨x, e, h1, h2, h3, h4, h5⟩
  · omega
  · omega

theorem Sd.other {w0 W W' : World} {R X k B Y : Nat} {v : Nat → One} (h : Sd w0 W R X k B v) (ht : Turn (· = Y) W W') (hR : R ≠ Y) (hX : X ≠ Y) (hY : w0.heap.size ≤ Y) : Sd w0 W' R X k B v := by
  refine ⟨⟨?_, ?_, h.sh.ne, h.sh.le, h.sh.w, h.sh.u, h.sh.p⟩, h.r0, h.x0, h.rb, h.xb, Nat.le_trans h.bw ht.size, h.bel.trans (ht.below h.bel.size (fun i hi => by rw [hi]; exact hY))⟩
  · have := ht.block R h.sh.lt.1 hR
    have hr := h.sh.root
    unfold World.cell? at hr ⊢
    rw [show (⟨R, 0, none⟩ : Addr).block = R from rfl, this]; exact hr
  · obtain ⟨cur, hx, h2⟩ := h.sh.row
    exact ⟨cur, (ht.block X h.sh.lt.2 hX).trans hx, h2⟩
theorem Sd.raise {w0 W : World} {R X k B B' : Nat} {v : Nat → One} (h : Sd w0 W R X k B v) (h1 : B ≤ B') (h2 : B' ≤ W.heap.size) : Sd w0 W R X k B' v :=
  ⟨h.sh, h.r0, h.x0, by have := h.rb; omega, by have := h.xb; omega, h2, h.bel⟩

/-- Two Shares, apart. -/
structure S2 (w0 W : World) (Ra Xa Rb Xb k B : Nat) (va vb : Nat → One) : Prop where
  a : Sd w0 W Ra Xa k B va
  b : Sd w0 W Rb Xb k B vb
  n1 : Ra ≠ Xb
  n2 : Xa ≠ Xb
  n3 : Rb ≠ Xa
section
variable {w0 W W' : World} {Ra Xa Rb Xb k B : Nat} {va vb v' : Nat → One}
theorem S2.stepA (h : S2 w0 W Ra Xa Rb Xb k B va vb) (hs : Sh W' Ra Xa k v') (ht : Turn (· = Xa) W W') : S2 w0 W' Ra Xa Rb Xb k B v' vb :=
  ⟨h.a.step hs ht, h.b.other ht h.n3 (Ne.symm h.n2) h.a.x0, h.n1, h.n2, h.n3⟩
theorem S2.stepB (h : S2 w0 W Ra Xa Rb Xb k B va vb) (hs : Sh W' Rb Xb k v') (ht : Turn (· = Xb) W W') : S2 w0 W' Ra Xa Rb Xb k B va v' :=
  ⟨h.a.other ht h.n1 h.n2 h.b.x0, h.b.step hs ht, h.n1, h.n2, h.n3⟩
theorem S2.below (h : S2 w0 W Ra Xa Rb Xb k B va vb) (hb : Below B W W') : S2 w0 W' Ra Xa Rb Xb k B va vb := ⟨h.a.below hb, h.b.below hb, h.n1, h.n2, h.n3⟩
end

/-- Nobody was passed over; what was used are whole numbers of at most j; weights within their limits. -/
def Whole (v : Nat → One) (j : Nat) : Prop := ∀ i, (v i).p = 0 ∧ (4562146422526312448 ≤ (v i).w ∧ (v i).w ≤ 4652218415073722368) ∧ ∃ m : Nat, m ≤ j ∧ (v i).u = ofN (m : Int)
theorem whole_start : Whole one0 0 := fun i => ⟨rfl, ⟨by show _ ≤ 4607182418800017408; omega, by show 4607182418800017408 ≤ _; omega⟩, 0, by omega, by show 0 = _; decide +kernel⟩
theorem whole_set {v : Nat → One} {j i x : Nat} (h : Whole v j) (hx : x < 18446744073709551616) : Whole (putW v i (sclean x)) j := fun q => by
  unfold putW
  by_cases e : q = i
  · rw [if_pos e]; exact ⟨(h i).1, sclean_bounds hx, (h i).2.2⟩
  · rw [if_neg e]; exact h q
theorem whole_run {v : Nat → One} {j i : Nat} (h : Whole v j) (hj : j < 60) : Whole (putU v i (more (v i).u)) (j + 1) := fun q => by
  unfold putU
  by_cases e : q = i
  · rw [if_pos e]
    obtain ⟨m, hm, hu⟩ := (h i).2.2
    exact ⟨(h i).1, (h i).2.1, m + 1, by omega, by show more (v i).u = _; rw [hu, ofN_more m (by omega)]; rfl⟩
  · rw [if_neg e]
    obtain ⟨m, hm, hu⟩ := (h q).2.2
    exact ⟨(h q).1, (h q).2.1, m, by omega, hu⟩
theorem ofN_range : ∀ m : Nat, m < 41 → ofN m = 0 ∨ (4607182418800017408 ≤ ofN m ∧ ofN m < 4635329916471083008) := by decide +kernel
theorem ofN_twice : ∀ m : Nat, m < 41 → arithN .add (less (ofN m)) (less (ofN m)) = ofN m ∧ nanN (ofN m) = false := by decide +kernel
theorem add_back (m : Nat) (h : m < 41) (u : Nat) (hu : u = ofN (m : Int)) (w : World) : Calls Try.prog 18 #[.int .i64 1, .int .u64 (less u : Nat), .int .u64 (less u : Nat)] w fun e w' => e = .returned (.int .u64 (u : Nat)) ∧ w = w' := by
  subst hu
  obtain ⟨h1, h2⟩ := ofN_twice m h
  have := op_still 1 .add (by simp) (less (ofN m)) (less (ofN m)) (by rw [h1]; exact h2) w
  rw [h1] at this
  exact this

theorem bst_ahead {g : Nat → Bool} {v v' : Nat → One} : ∀ k, (∀ i j, i < k → j < k → aheadI (v i) (v j) = aheadI (v' i) (v' j)) → bst g v k = bst g v' k
  | 0, _ => rfl
  | k + 1, h => by
    have ih := bst_ahead (g := g) (v := v) (v' := v') k (fun i j hi hj => h i j (by omega) (by omega))
    unfold bst
    rw [ih]
    by_cases c : g k = true
    · rw [if_pos c, if_pos c]
      cases q : bst g v' k with
      | none => rfl
      | some b =>
        have := (bst_lt g v' k b q).1
        simp only
        rw [h k b (by omega) (by omega)]
    · rw [if_neg c, if_neg c]
theorem whole_ahead {v : Nat → One} {n : Nat} (h : Whole v 40) (i j : Nat) (hi : i < n) (hj : j < n) : aheadI (v i) (v j) = aheadI (halved v n i) (halved v n j) := by
  unfold halved
  rw [if_pos hi, if_pos hj]
  obtain ⟨p1, w1, m1, b1, u1⟩ := h i
  obtain ⟨p2, w2, m2, b2, u2⟩ := h j
  unfold aheadI
  simp only
  rw [p1, p2]
  have e : ¬ ((20 : Int) < 0) := by decide
  rw [if_neg e, if_neg e, if_neg e, if_neg e]
  have r1 := ofN_range m1 (by omega)
  have r2 := ofN_range m2 (by omega)
  rw [← u1] at r1
  rw [← u2] at r2
  exact (quo_order _ _ _ _ r1 r2 w1.1 w1.2 w2.1 w2.2).symm

attribute [local irreducible] Int.lt Int.le less more quo aheadI sclean ofN opN
set_option maxRecDepth 100000 in
set_option maxHeartbeats 4000000 in
theorem shareHalves_walk (a0 : Option Addr) (len0 cap0 : Nat) (z0 : List Int) (a1 : Option Addr) (len1 cap1 : Nat) (z1 : List Int) (a2 : Option Addr) (len2 cap2 : Nat) (z2 : List Int) (w : World)
    (w0 : IsRow .u64 w a0 len0 cap0 z0) (w1 : IsRow .i64 w a1 len1 cap1 z1) (w2 : IsRow .i64 w a2 len2 cap2 z2) :
    Calls Try.prog 8 #[.slice a0 len0 cap0, .slice a1 len1 cap1, .slice a2 len2 cap2] w fun e w' => e = .returned (.bool true) ∧ Below w.heap.size w w' := by
  obtain ⟨i0, hi, hz0, hz1, hz2⟩ := info_parts info_int
  have m0 := row_len w0
  have m1 := row_len w1
  have m2 := row_len w2
  unfold maxLen at m0 m1 m2
  go_enter Try.func8, Try.ntmps8
  go_wp2_with fail
  refine (new_any 4 (by omega) w).mono ?_; rintro e W1 ⟨Ra, Xa, rfl, hR, hX, hs, hb⟩
  have A1 := Sd.of_new (Below.refl _ _) hR hX hs hb
  clear hR hX hs hb
  go_wp2_with fail
  refine (new_any 4 (by omega) W1).mono ?_; rintro e W2 ⟨Rb, Xb, rfl, hR, hX, hs, hb⟩
  have B2 := Sd.of_new A1.bel hR hX hs hb
  have A2 := (A1.below hb).raise hb.size (Nat.le_refl _)
  have S : S2 w W2 Ra Xa Rb Xb 4 W2.heap.size one0 one0 := ⟨A2, B2, by have := A1.rb; omega, by have := A1.xb; omega, by have := A1.xb; omega⟩
  clear A1 A2 B2 hR hX hs hb
  generalize W2.heap.size = B at *
  go_wp2_with fail
  go_loopw [9] (fun i wr => ∃ j : Nat, j ≤ 4 ∧ i = .int .i64 (j : Int) ∧ ∃ v, S2 w wr Ra Xa Rb Xb 4 B v v ∧ Whole v 0) (fun i _ => 4 - (intOf i).toNat)
  case atStart => exact ⟨0, by omega, rfl, one0, S, whole_start⟩
  case round =>
    clear S
    obtain ⟨j, hj, rfl, v, S, hW⟩ := hrel
    by_cases hlt : j < len0 ∧ j < 4
    · obtain ⟨q1, q2⟩ := hlt
      have l1 : (j : Int) < (len0 : Int) := by omega
      have l2 : (j : Int) < 4 := by omega
      have l0 : (0 : Int) ≤ (j : Int) := by omega
      obtain ⟨x, rfl, x0, xw⟩ := row_at w0 j q1
      obtain ⟨y, hy, hy2⟩ := u64_nat xw
      rw [hy] at x0
      have x1 := (S.a.bel.cell (cell_block_lt x0)).trans x0
      have hW2 := Lib.hid (whole_set (i := j) hW hy2)
      clear hy xw
      go_wp2_with fail
      refine (set_in Ra Xa 4 v j q2 y hy2 wr S.a.sh).mono ?_; rintro e W3 ⟨rfl, hs, ht⟩
      have S3 := S.stepA hs ht
      have x3 := (S3.a.bel.cell (cell_block_lt x0)).trans x0
      clear S hs ht x1
      go_wp2_with fail
      refine (set_in Rb Xb 4 v j q2 y hy2 W3 S3.b.sh).mono ?_; rintro e W4 ⟨rfl, hs, ht⟩
      have S4 := S3.stepB hs ht
      clear S3 hs ht x3 x0
      go_wp2_with fail
      exact ⟨⟨j + 1, by omega, by go_num, _, S4, hW2.out⟩, by simp [intOf]; omega⟩
    · have hq : (len0 : Int) ≤ (j : Int) ∨ ((j : Int) < (len0 : Int) ∧ (4 : Int) ≤ (j : Int)) := by omega
      have l0 : (0 : Int) ≤ (j : Int) := by omega
      have HS := Lib.hid S
      clear hlt w0 S
      rcases hq with hq | ⟨hq, hq2⟩
      all_goals
        go_wp2_with fail
        have S := HS.out
        clear HS
        go_loopw [10, 11] (fun i _ wr => ∃ j : Nat, j ≤ 40 ∧ i = .int .i64 (j : Int) ∧ ∃ v, S2 w wr Ra Xa Rb Xb 4 B v v ∧ Whole v j) (fun i _ _ => 40 - (intOf i).toNat)
        case atStart => exact ⟨0, by omega, rfl, v, S, hW⟩
        case round =>
          clear S hW v
          obtain ⟨j, hj, rfl, v, S, hW⟩ := hrel
          by_cases hlt : j < len1 ∧ j < 40
          · obtain ⟨q1, q2⟩ := hlt
            have l1 : (j : Int) < (len1 : Int) := by omega
            have l2 : (j : Int) < 40 := by omega
            have l0 : (0 : Int) ≤ (j : Int) := by omega
            obtain ⟨x, rfl, x0, xw⟩ := row_at w1 j q1
            have x1 := (S.a.bel.cell (cell_block_lt x0)).trans x0
            generalize z1.getD j 0 = y at *
            have wb := within_bounds y 0 3 (by omega)
            obtain ⟨k, hk⟩ : ∃ k : Nat, withinI y 0 3 = (k : Int) := ⟨(withinI y 0 3).toNat, by omega⟩
            have hk4 : k < 4 := by omega
            have hW2 := Lib.hid (whole_run (i := k) hW (by omega))
            clear xw wb x0 hW
            go_wp2_with fail
            refine (within_any y 0 3 (by omega) (by omega) (by omega) _).mono ?_; rintro e W3 ⟨rfl, rfl⟩
            rw [hk]
            clear hk x1
            go_wp2_with fail
            refine (run_in Ra Xa 4 v k hk4 wr S.a.sh).mono ?_; rintro e W3 ⟨rfl, hs, ht⟩
            have S3 := S.stepA hs ht
            clear S hs ht
            go_wp2_with fail
            refine (run_in Rb Xb 4 v k hk4 W3 S3.b.sh).mono ?_; rintro e W4 ⟨rfl, hs, ht⟩
            have S4 := S3.stepB hs ht
            clear S3 hs ht
            go_wp2_with fail
            exact ⟨⟨j + 1, by omega, by go_num, _, S4, hW2.out⟩, by simp [intOf]; omega⟩
          · have hq : (len1 : Int) ≤ (j : Int) ∨ ((j : Int) < (len1 : Int) ∧ (40 : Int) ≤ (j : Int)) := by omega
            have l0 : (0 : Int) ≤ (j : Int) := by omega
            have hW40 : Whole v 40 := fun i => ⟨(hW i).1, (hW i).2.1, by obtain ⟨m, h1, h2⟩ := (hW i).2.2; exact ⟨m, by omega, h2⟩⟩
            have HS := Lib.hid S
            clear hlt w1 S hW
            rcases hq with hq | ⟨hq, hq2⟩
            all_goals
              go_wp2_with fail
              refine (halve_any Rb Xb 4 v wr HS.out.b.sh).mono ?_; rintro e W3 ⟨rfl, hs, ht⟩
              have S := HS.out.stepB hs ht
              clear HS hs ht
              go_wp2_with fail
              go_loopw [12] (fun i wr => ∃ j : Nat, j ≤ 4 ∧ i = .int .i64 (j : Int) ∧ S2 w wr Ra Xa Rb Xb 4 B v (halved v 4)) (fun i _ => 4 - (intOf i).toNat)
              case atStart => exact ⟨0, by omega, rfl, S⟩
              case round =>
                clear S
                obtain ⟨q, hq, rfl, S⟩ := hrel
                by_cases hlt : q < 4
                · have l1 : (q : Int) < 4 := by omega
                  have l0 : (0 : Int) ≤ (q : Int) := by omega
                  have hub := Lib.hid (used_in Rb Xb 4 (halved v 4) q hlt _ S.b.sh)
                  have hua := Lib.hid (used_in Ra Xa 4 v q hlt _ S.a.sh)
                  have hwa := Lib.hid (weight_in Ra Xa 4 v q hlt _ S.a.sh)
                  have hwb := Lib.hid (weight_in Rb Xb 4 (halved v 4) q hlt _ S.b.sh)
                  have ew : (halved v 4 q).w = (v q).w := by unfold halved; rw [if_pos hlt]
                  have eu : (halved v 4 q).u = less (v q).u := by unfold halved; rw [if_pos hlt]
                  rw [eu] at hub
                  rw [ew] at hwb
                  obtain ⟨_, _, m, hm, hmu⟩ := hW40 q
                  have hop := Lib.hid (fun W => add_back m (by omega) (v q).u hmu W)
                  have HS := Lib.hid S
                  clear ew eu hmu S
                  generalize (v q).u = u at *
                  generalize (v q).w = y at *
                  go_wp2_with (first
                    | (go_at_call 18; refine (hop.out _).mono ?_; rintro e w' ⟨rfl, rfl⟩)
                    | fail)
                  refine hub.out.mono ?_; rintro e W4 ⟨rfl, rfl⟩
                  go_wp2_with fail
                  refine hub.out.mono ?_; rintro e W4 ⟨rfl, rfl⟩
                  go_wp2_with fail
                  refine (hop.out _).mono ?_; rintro e w' ⟨rfl, rfl⟩
                  go_wp2_with fail
                  refine hua.out.mono ?_; rintro e W4 ⟨rfl, rfl⟩
                  go_wp2_with fail
                  refine hwa.out.mono ?_; rintro e W4 ⟨rfl, rfl⟩
                  go_wp2_with fail
                  refine hwb.out.mono ?_; rintro e W4 ⟨rfl, rfl⟩
                  go_wp2_with fail
                  exact ⟨⟨q + 1, by omega, by go_num, HS.out⟩, by simp [intOf]; omega⟩
                · obtain rfl : q = 4 := by omega
                  have HS := Lib.hid S
                  clear S
                  go_wp2_with fail
                  have S := HS.out
                  clear HS
                  go_loopw [13, 14] (fun p i wr => ∃ j : Nat, j ≤ 6 ∧ i = .int .i64 (j : Int) ∧ ∃ ps, OL B wr p ps ∧ ps.length ≤ j ∧ S2 w wr Ra Xa Rb Xb 4 B v (halved v 4)) (fun _ i _ => 6 - (intOf i).toNat)
                  case atStart => exact ⟨0, by omega, rfl, [], OL.nil _ _, by simp, S⟩
                  case round =>
                    clear S
                    obtain ⟨j, hj, rfl, ps, O, hps, S⟩ := hrel
                    by_cases hlt : j < len2 ∧ j < 6
                    · obtain ⟨q1, q2⟩ := hlt
                      have l1 : (j : Int) < (len2 : Int) := by omega
                      have l2 : (j : Int) < 6 := by omega
                      have l0 : (0 : Int) ≤ (j : Int) := by omega
                      obtain ⟨x, rfl, x0, xw⟩ := row_at w2 j q1
                      have x1 := (S.a.bel.cell (cell_block_lt x0)).trans x0
                      generalize z2.getD j 0 = y at *
                      have hbw := S.a.bw
                      have HS := Lib.hid S
                      clear xw x0 hW40 S
                      go_wp2_with fail
                      refine (within_any y 0 3 (by omega) (by omega) (by omega) _).mono ?_; rintro e W3 ⟨rfl, rfl⟩
                      generalize withinI y 0 3 = k at *
                      clear x1
                      go_wp2_with (first
                        | (at_builtin; refine wpList_append_own _ rfl _ _ 27 rfl B 3 i0 (.int .i64 0) 1 8 Try.underlying27 hi hz0 hz1 hz2 rfl (by decide) _ _ _ rfl (World.ownsRow.alloc O _) ⟨_, 0, none⟩ 1 1 [.int .i64 k] rfl rfl ?c1 ?c2 ?c3 ?c4 ?c5 ?_)
                        | fail)
                      case c1 =>
                        intro j u hj
                        match j, hj with
                        | 0, hj => simp at hj; subst hj; simp [Addr.add]
                      case c2 => intro u hu; simp at hu; subst hu; rfl
                      case c3 => unfold maxLen; omega
                      case c4 => omega
                      case c5 => simp; omega
                      intro v' W6 hown' hgrow _
                      have RR := ol_push hbw O hown' hgrow
                      have S6 := HS.out.below RR.2
                      have O6 := RR.1
                      clear hown' hgrow O HS RR
                      go_wp2_with fail
                      refine ⟨⟨_, _, _, _, _, _, _, _, _, _, _, _, _, _, _, _, _, _, _, _, ⟨j + 1, by omega, rfl, _, O6, by simp; omega, S6⟩, rfl⟩, ?_⟩
                      show 6 - ((j : Int) + 1).toNat < 6 - (j : Int).toNat
                      omega
                    · have hq : (len2 : Int) ≤ (j : Int) ∨ ((j : Int) < (len2 : Int) ∧ (6 : Int) ≤ (j : Int)) := by omega
                      have l0 : (0 : Int) ≤ (j : Int) := by omega
                      obtain ⟨a, c, rfl, ir, hbl⟩ := O.ir
                      have hX := S.a.xb
                      have hX2 := S.b.xb
                      have pa := pick_any Ra Xa 4 v a ps.length c _ wr (by omega) S.a.sh ir (fun x hx => by have := hbl x hx; omega)
                      generalize hG : (fun i : Nat => decide (iHas (fun i => ps.getD i 0) ps.length (i : Int))) = g at *
                      have hbs := bst_ahead (g := g) (v := v) (v' := halved v 4) 4 (fun i j hi hj => whole_ahead hW40 i j hi hj)
                      have pb := fun W (h : Sd w W Rb Xb 4 B (halved v 4)) (hir : IR W a ps.length (fun i => ps.getD i 0)) => pick_any Rb Xb 4 (halved v 4) a ps.length c _ W (by omega) h.sh hir (fun x hx => by have := hbl x hx; omega)
                      rw [hG, ← hbs] at pb
                      have HS := Lib.hid S
                      have Hpa := Lib.hid pa
                      have Hpb := Lib.hid pb
                      have Hir := Lib.hid ir
                      have Hbl := Lib.hid hbl
                      clear hlt S pa pb hbs hW40 hG O ir hbl w2
                      generalize obI (bst g v 4) = r at *
                      rcases hq with hq | ⟨hq, hq2⟩
                      all_goals
                        go_wp2_with fail
                        refine Hpa.out.mono ?_; rintro e W3 ⟨rfl, hs, ht⟩
                        have S3 := HS.out.stepA hs ht
                        have ir3 := Hir.out.turn ht (fun x hx => by have := Hbl.out x hx; omega)
                        clear HS hs ht Hpa
                        go_wp2_with fail
                        refine (Hpb.out W3 S3.b ir3).mono ?_; rintro e W4 ⟨rfl, hs, ht⟩
                        have S4 := S3.stepB hs ht
                        clear S3 hs ht Hpb ir3
                        go_wp2_with fail
                        refine (runs_any W4).mono ?_; rintro e W5 ⟨rfl, t5⟩
                        have bF := S4.a.bel.trans (t5.mono S4.a.bel.size)
                        clear S4 t5
                        go_wp2_with fail
                        go_ret
                        exact ⟨rfl, bF⟩
end Go.Proofs.Ytdpgpnjjonhdhaa.St
