/- ShareParts: the walk. No condition but those written in each statement. -/
import Derived.Test.YtdpgpnjjonhdhaaShP
namespace Go.Proofs.Ytdpgpnjjonhdhaa.St
open Go.RowKit Go.Proofs.Ytdpgpnjjonhdhaa.Fp
set_option linter.unusedVariables false

def vE (e : Nat → Nat) : Nat → One := fun i => ⟨ofN (two (e i) : Nat), 0, 0⟩
theorem vE_zero : one0 = vE (fun _ => 0) := by
  have h : ofN (two 0 : Nat) = 4607182418800017408 := by decide +kernel
  funext i
  unfold vE
  rw [h]; rfl
def eset (e : Nat → Nat) (j q : Nat) : Nat → Nat := fun i => if i = j then q else e i
theorem eset_lt {e : Nat → Nat} {j q : Nat} (h : ∀ i, e i < 3) (hq : q < 3) : ∀ i, eset e j q i < 3 := fun i => by unfold eset; split; exact hq; exact h i
theorem vE_set (e : Nat → Nat) (j q : Nat) (hq : q < 3) : putW (vE e) j (sclean (ofN (two q : Nat))) = vE (eset e j q) := by
  rw [two_clean q hq]
  funext i
  unfold putW vE eset
  by_cases h : i = j
  · subst h; simp
  · rw [if_neg h, if_neg h]
def rng (j : Nat) : List Int := (List.range j).map (fun i : Nat => (i : Int))
theorem rng_succ (j : Nat) : rng j ++ [(j : Int)] = rng (j + 1) := by unfold rng; rw [List.range_succ]; simp
theorem rng_len (j : Nat) : (rng j).length = j := by simp [rng]
theorem rng_at (k i : Nat) (h : i < k) : (rng k).getD i 0 = i := by simp [rng, List.getD, h]

theorem pick_all (w0 W : World) (R X k B : Nat) (v : Nat → One) (b : Nat) (hb : bst (fun _ => true) v k = some b) (a : Option Addr) (c : Nat) (h : Sd w0 W R X k B v) (hk : k ≤ 4) (ha : IR W a k (fun i => (i : Int))) (hne : ∀ x, a = some x → x.block ≠ X) :
    Calls Try.prog 12 #[.pointer (some ⟨R, 0, none⟩), .slice a k c] W fun e W' => e = .returned (.int .i64 (b : Nat)) ∧ Sd w0 W' R X k B (pickV v (fun _ => true) k) ∧ Turn (· = X) W W' := by
  have hg : ∀ i, i < k → (fun i : Nat => decide (iHas (fun i => (i : Int)) k (i : Int))) i = (fun _ => true) i := fun i hi => decide_eq_true ⟨i, hi, rfl⟩
  refine (pick_any R X k v a k c (fun i => (i : Int)) W (by omega) h.sh ha hne).mono ?_
  rintro e W' ⟨rfl, hs, ht⟩
  rw [bst_congr v k hg, hb]
  rw [pickV_congr v k hg] at hs
  exact ⟨rfl, h.step hs ht, ht⟩

attribute [local irreducible] Int.lt Int.le less more quo aheadI sclean ofN opN vE two inc rng
set_option maxRecDepth 100000 in
set_option maxHeartbeats 8000000 in
theorem shareParts_walk (a0 : Int) (a1 : Option Addr) (len1 cap1 : Nat) (z1 : List Int) (a2 : Int) (w : World) (w0 : (Lit.int .i64 a0).wf = true) (w1 : IsRow .i64 w a1 len1 cap1 z1) (w2 : (Lit.int .i64 a2).wf = true) :
    Calls Try.prog 5 #[.int .i64 a0, .slice a1 len1 cap1, .int .i64 a2] w fun e w' => e = .returned (.bool true) ∧ Below w.heap.size w w' := by
  obtain ⟨i0, hi, hz0, hz1, hz2⟩ := info_parts info_int
  have m1 := row_len w1
  unfold maxLen at m1
  have kb := within_bounds a0 1 4 (by omega)
  obtain ⟨k, hk⟩ : ∃ k : Nat, withinI a0 1 4 = (k : Int) := ⟨(withinI a0 1 4).toNat, by omega⟩
  have nb := within_bounds a2 1 60 (by omega)
  obtain ⟨n, hn⟩ : ∃ n : Nat, withinI a2 1 60 = (n : Int) := ⟨(withinI a2 1 60).toNat, by omega⟩
  rw [hk] at kb
  rw [hn] at nb
  have Wk := fun W => within_any a0 1 4 (by omega) (by omega) (by omega) W
  rw [hk] at Wk
  have Wn := fun W => within_any a2 1 60 (by omega) (by omega) (by omega) W
  rw [hn] at Wn
  have Hk := Lib.hid Wk
  have Hn := Lib.hid Wn
  clear hk hn Wk Wn w0 w2
  go_enter Try.func5, Try.ntmps5
  go_wp2_with fail
  refine (Hk.out _).mono ?_; rintro e W1 ⟨rfl, rfl⟩
  clear Hk
  go_wp2_with fail
  refine (new_any k (by omega) w).mono ?_; rintro e W1 ⟨R, X, rfl, hR, hX, hs, hb⟩
  have S := Sd.of_new (Below.refl _ _) hR hX hs hb
  rw [vE_zero] at S
  clear hR hX hs hb
  generalize W1.heap.size = B at *
  go_wp2_with fail
  go_loopw [9, 10] (fun p i wr => ∃ j : Nat, j ≤ k ∧ i = .int .i64 (j : Int) ∧ ∃ e, (∀ i, e i < 3) ∧ Sd w wr R X k B (vE e) ∧ OL B wr p (rng j)) (fun _ i _ => k - (intOf i).toNat)
  case atStart => exact ⟨0, Nat.zero_le _, rfl, fun _ => 0, fun _ => by show 0 < 3; omega, S, by unfold rng; exact OL.nil B W1⟩
  case round =>
    clear S
    obtain ⟨j, hj, rfl, e, he, S, O⟩ := hrel
    by_cases hlt : j < k
    · have l1 : (j : Int) < (k : Int) := by omega
      have l0 : (0 : Int) ≤ (j : Int) := by omega
      have hsucc := Lib.hid (rng_succ j)
      have rl := rng_len j
      have fin : ∀ q : Nat, q < 3 → ∀ W, Sd w W R X k B (vE e) → Calls Try.prog 10 #[.pointer (some ⟨R, 0, none⟩), .int .i64 (j : Int), .int .u64 (ofN (two q : Nat) : Nat)] W fun e1 W' => e1 = .returned (.tuple #[]) ∧ Sd w W' R X k B (vE (eset e j q)) ∧ Turn (· = X) W W' := by
        intro q hq W h
        refine (set_in R X k (vE e) j hlt (ofN (two q : Nat)) (ofN_lt _) W h.sh).mono ?_
        rintro e1 W' ⟨rfl, hs, ht⟩
        rw [vE_set e j q hq] at hs
        exact ⟨rfl, h.step hs ht, ht⟩
      have hcase : (¬ j < len1 ∧ True) ∨ (∃ x, a1 = some x ∧ j < len1 ∧ ∃ y, wr.cell? (x.add j) = some (.int .i64 y) ∧ (withinI y 0 2 = 0 ∨ withinI y 0 2 = 1 ∨ withinI y 0 2 = 2)) := by
        by_cases c : j < len1
        · obtain ⟨x, hx, x0, xw⟩ := row_at w1 j c
          have := within_bounds (z1.getD j 0) 0 2 (by omega)
          exact .inr ⟨x, hx, c, _, (S.bel.cell (cell_block_lt x0)).trans x0, by omega⟩
        · exact .inl ⟨c, trivial⟩
      have t0 : two 0 = 1 := by unfold two; rfl
      have t1 : two 1 = 2 := by unfold two; rfl
      have t2 : two 2 = 4 := by unfold two; rfl
      have hq : ∃ q : Nat, q < 3 ∧ ((¬ j < len1 ∧ q = 0) ∨ (∃ x, a1 = some x ∧ j < len1 ∧ ∃ y, wr.cell? (x.add j) = some (.int .i64 y) ∧ withinI y 0 2 = (q : Int))) := by
        rcases hcase with ⟨c, _⟩ | ⟨x, hx, c, y, hy, e | e | e⟩
        · exact ⟨0, by omega, .inl ⟨c, rfl⟩⟩
        · exact ⟨0, by omega, .inr ⟨x, hx, c, y, hy, e⟩⟩
        · exact ⟨1, by omega, .inr ⟨x, hx, c, y, hy, e⟩⟩
        · exact ⟨2, by omega, .inr ⟨x, hx, c, y, hy, e⟩⟩
      obtain ⟨q, hq3, hq⟩ := hq
      have Fin := Lib.hid (fin q hq3)
      have he2 := Lib.hid (eset_lt (j := j) he hq3)
      have Hof := Lib.hid (fun W => of_any (two q : Nat) W)
      clear fin hcase he
      have hq' : (¬ j < len1 ∧ q = 0) ∨ (∃ x, a1 = some x ∧ j < len1 ∧ ∃ y, wr.cell? (x.add j) = some (.int .i64 y) ∧ withinI y 0 2 = (q : Int) ∧ q = 0) ∨ (∃ x, a1 = some x ∧ j < len1 ∧ ∃ y, wr.cell? (x.add j) = some (.int .i64 y) ∧ withinI y 0 2 = (q : Int) ∧ q = 1) ∨ (∃ x, a1 = some x ∧ j < len1 ∧ ∃ y, wr.cell? (x.add j) = some (.int .i64 y) ∧ withinI y 0 2 = (q : Int) ∧ q = 2) := by
        rcases hq with h | ⟨x, hx, c, y, hy, e⟩
        · exact .inl h
        · rcases (show q = 0 ∨ q = 1 ∨ q = 2 by omega) with h | h | h
          · exact .inr (.inl ⟨x, hx, c, y, hy, e, h⟩)
          · exact .inr (.inr (.inl ⟨x, hx, c, y, hy, e, h⟩))
          · exact .inr (.inr (.inr ⟨x, hx, c, y, hy, e, h⟩))
      clear hq hq3
      have HS := Lib.hid (And.intro S O)
      clear S O w1
      rcases hq' with ⟨c, rfl⟩ | ⟨x, rfl, c, y, x1, hy, rfl⟩ | ⟨x, rfl, c, y, x1, hy, rfl⟩ | ⟨x, rfl, c, y, x1, hy, rfl⟩
      all_goals
        have c' : ((j : Int) < (len1 : Int)) = (j < len1) := by simp
        first | (have c1 : (j : Int) < (len1 : Int) := by omega) | (have c1 : (len1 : Int) ≤ (j : Int) := by omega)
        clear c'
        go_wp2_with fail
        try (refine (within_any y 0 2 (by omega) (by omega) (by omega) _).mono ?_; rw [hy]; rintro e1 W3 ⟨rfl, rfl⟩; clear x1; go_wp2_with fail)
        first | rw [t0] at Hof Fin | rw [t1] at Hof Fin | rw [t2] at Hof Fin
        refine (Hof.out _).mono ?_; rintro e1 W3 ⟨rfl, rfl⟩
        clear Hof
        go_wp2_with fail
        refine (Fin.out _ HS.out.1).mono ?_; rintro e1 W4 ⟨rfl, S4, t4⟩
        have O4 := HS.out.2.turn t4 S4.xb
        have hbw := S4.bw
        have HS4 := Lib.hid S4
        clear HS Fin t4 S4
        go_wp2_with (first
          | (at_builtin; refine wpList_append_own _ rfl _ _ 27 rfl B 3 i0 (.int .i64 0) 1 8 Try.underlying27 hi hz0 hz1 hz2 rfl (by decide) _ _ _ rfl (World.ownsRow.alloc O4 _) ⟨_, 0, none⟩ 1 1 [.int .i64 (j : Int)] rfl rfl ?c1 ?c2 ?c3 ?c4 ?c5 ?_)
          | fail)
        case c1 =>
          intro j u hj
          match j, hj with
          | 0, hj => simp at hj; subst hj; simp [Addr.add]
        case c2 => intro u hu; simp at hu; subst hu; rfl
        case c3 => unfold maxLen; omega
        case c4 => omega
        case c5 => simp; omega
        intro v' W6 hown' hgrow _
        have hown2 : W6.ownsRow B 3 1 v' ((rng j).length + 1) ((rng j).map (Value.int .i64) ++ [.int .i64 (j : Int)]) := by rw [rl]; exact hown'
        have RR := ol_push hbw O4 hown2 hgrow
        rw [hsucc.out] at RR
        have S6 := HS4.out.below RR.2
        have O6 := RR.1
        clear hown' hown2 hgrow O4 HS4 RR hsucc rl
        go_wp2_with fail
        exact ⟨⟨j + 1, by omega, by go_num, _, he2.out, S6, O6⟩, by simp [intOf]; omega⟩
    · obtain rfl : j = k := by omega
      obtain ⟨a, c, rfl, ir, hbl⟩ := O.ir
      rw [rng_len] at ir ⊢
      have ir2 : IR wr a j (fun i => (i : Int)) := fun i hi => by
        obtain ⟨x, e1, c0⟩ := ir i hi
        simp only at c0
        rw [rng_at j i hi] at c0
        exact ⟨x, e1, c0⟩
      have P := pv_start (k := j) (v := vE e) he (fun i _ => by unfold vE; rfl) (fun i _ => by unfold vE; rfl) (fun i _ => by unfold vE; rfl)
      have HS := Lib.hid S
      have Hbl := Lib.hid hbl
      clear O ir hbl w1 S he hi hz0 hz1 hz2
      go_wp2_with fail
      have S := HS.out
      have hj0 : 0 < j := by omega
      have hj4 : j ≤ 4 := by omega
      clear HS hlt hj
      go_loopw [12] (fun i wr => ∃ s : Nat, s ≤ n ∧ i = .int .i64 (s : Int) ∧ ∃ v m c, Sd w wr R X j B v ∧ IR wr a j (fun i => (i : Int)) ∧ PV j v e m c s) (fun i _ => n - (intOf i).toNat)
      case atStart => exact ⟨0, Nat.zero_le _, rfl, _, _, _, S, ir2, P⟩
      case round =>
        clear S P ir2
        obtain ⟨s, hs, rfl, v, m, cc, S, ir2, P⟩ := hrel
        have l0 : (0 : Int) ≤ (s : Int) := by omega
        by_cases hlt : s < n
        · have l1 : (s : Int) < (n : Int) := by omega
          obtain ⟨b, hb, hbk, m', c', P'⟩ := pv_step P hj4 hj0 (by omega)
          have hxb := S.xb
          have Hpk := Lib.hid (pick_all w wr R X j B v b hb a c S hj4 ir2 (fun x hx => by have := Hbl.out x hx; omega))
          have Hbk := Lib.hid hbk
          have HP := Lib.hid P'
          clear hb S P hbk P'
          go_wp2_with fail
          refine (Hn.out _).mono ?_; rintro e1 W3 ⟨rfl, rfl⟩
          go_wp2_with fail
          refine Hpk.out.mono ?_; rintro e1 W3 ⟨rfl, S3, t3⟩
          have ir3 := ir2.turn t3 (fun x hx => by have := Hbl.out x hx; omega)
          have Hrn := Lib.hid (run_in R X j _ b Hbk.out W3 S3.sh)
          clear Hpk ir2 t3
          go_wp2_with fail
          refine Hrn.out.mono ?_; rintro e1 W4 ⟨rfl, hs4, t4⟩
          have S4 := S3.step hs4 t4
          have ir4 := ir3.turn t4 (fun x hx => by have := Hbl.out x hx; omega)
          clear S3 ir3 Hrn hs4 t4
          obtain ⟨v', hv'⟩ : ∃ v', v' = putU (pickV v (fun _ => true) j) b (more ((pickV v (fun _ => true) j) b).u) := ⟨_, rfl⟩
          rw [← hv'] at S4 HP
          clear hv'
          have hP4 := HP
          go_wp2_with fail
          have HS4 := Lib.hid (And.intro S4 ir4)
          clear S4 ir4
          go_loopw [60] (fun i wr => ∃ q : Nat, q ≤ j ∧ i = .int .i64 (q : Int) ∧ wr = W4) (fun i _ => j - (intOf i).toNat)
          case atStart => exact ⟨0, Nat.zero_le _, rfl, rfl⟩
          case round =>
            obtain ⟨q, hq, rfl, rfl⟩ := hrel
            by_cases hq2 : q < j
            · have q1 : (q : Int) < (j : Int) := by omega
              have q0 : (0 : Int) ≤ (q : Int) := by omega
              go_wp2_with fail
              go_loopw [65] (fun i wr2 => ∃ r : Nat, r ≤ j ∧ i = .int .i64 (r : Int) ∧ wr2 = wr) (fun i _ => j - (intOf i).toNat)
              case atStart => exact ⟨0, Nat.zero_le _, rfl, rfl⟩
              case round =>
                obtain ⟨r, hr, rfl, rfl⟩ := hrel
                by_cases hr2 : r < j
                · have r1 : (r : Int) < (j : Int) := by omega
                  have r0 : (0 : Int) ≤ (r : Int) := by omega
                  have S4 := HS4.out.1
                  have hua := Lib.hid (used_in R X j v' q hq2 _ S4.sh)
                  have hwa := Lib.hid (weight_in R X j v' q hq2 _ S4.sh)
                  have hub := Lib.hid (used_in R X j v' r hr2 _ S4.sh)
                  have hwb := Lib.hid (weight_in R X j v' r hr2 _ S4.sh)
                  have qa := Lib.hid (fun W => quo_still (S4.sh.u q) (S4.sh.w q) W)
                  have qb := Lib.hid (fun W => quo_still (S4.sh.u r) (S4.sh.w r) W)
                  have ua := quo_ok (S4.sh.u q) (S4.sh.w q)
                  have ub := quo_ok (S4.sh.u r) (S4.sh.w r)
                  have qm := Lib.hid (fun W => more_still ub W)
                  have qo := Lib.hid (fun W => order_any _ _ ua.1 (more_ok ub).1 W)
                  have near : decide (0 < orderN (quo (v' q).u (v' q).w) (more (quo (v' r).u (v' r).w))) = false := decide_eq_false (by
                    have := pv_near HP.out (by omega) q r hq2 hr2
                    omega)
                  clear S4 ua ub
                  generalize orderN (quo (v' q).u (v' q).w) (more (quo (v' r).u (v' r).w)) = oo at *
                  generalize more (quo (v' r).u (v' r).w) = mm at *
                  generalize quo (v' r).u (v' r).w = xb at *
                  generalize quo (v' q).u (v' q).w = xa at *
                  go_wp2_with fail
                  refine hua.out.mono ?_; rintro e1 W5 ⟨rfl, rfl⟩
                  go_wp2_with fail
                  refine hwa.out.mono ?_; rintro e1 W5 ⟨rfl, rfl⟩
                  go_wp2_with fail
                  refine (qa.out _).mono ?_; rintro e1 W5 ⟨rfl, rfl⟩
                  clear hua hwa qa
                  go_wp2_with fail
                  refine hub.out.mono ?_; rintro e1 W5 ⟨rfl, rfl⟩
                  go_wp2_with fail
                  refine hwb.out.mono ?_; rintro e1 W5 ⟨rfl, rfl⟩
                  go_wp2_with fail
                  refine (qb.out _).mono ?_; rintro e1 W5 ⟨rfl, rfl⟩
                  clear hub hwb qb
                  go_wp2_with fail
                  refine (qm.out _).mono ?_; rintro e1 W5 ⟨rfl, rfl⟩
                  go_wp2_with fail
                  refine (qo.out _).mono ?_; rintro e1 W5 ⟨rfl, rfl⟩
                  go_wp2_with fail
                  exact ⟨⟨r + 1, by omega, by go_num, by first | rfl | trivial⟩, by simp [intOf]; omega⟩
                · obtain rfl : r = j := by omega
                  go_wp2_with fail
                  exact ⟨⟨q + 1, by omega, by go_num, by first | rfl | trivial⟩, by simp [intOf]; omega⟩
            · obtain rfl : q = j := by omega
              go_wp2_with fail
              exact ⟨⟨s + 1, by omega, by go_num, v', m', c', HS4.out.1, HS4.out.2, hP4.out⟩, by simp [intOf]; omega⟩
        · obtain rfl : s = n := by omega
          clear hlt P ir2
          go_wp2_with fail
          refine (Hn.out _).mono ?_; rintro e1 W3 ⟨rfl, rfl⟩
          go_wp2_with fail
          refine (runs_any wr).mono ?_; rintro e1 W5 ⟨rfl, t5⟩
          have bF := S.bel.trans (t5.mono S.bel.size)
          clear S t5
          go_wp2_with fail
          go_ret
          exact ⟨rfl, bF⟩
end Go.Proofs.Ytdpgpnjjonhdhaa.St
