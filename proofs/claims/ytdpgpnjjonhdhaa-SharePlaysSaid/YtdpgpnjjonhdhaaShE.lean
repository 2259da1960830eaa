/- ShareEdges: a weight is a number above nought, within its limits; what is used comes to nought by halves. No condition but those written in each statement. -/
import Derived.Test.YtdpgpnjjonhdhaaShR
import Derived.Test.YtdpgpnjjonhdhaaFpEnd
namespace Go.Proofs.Ytdpgpnjjonhdhaa.St
open Go.RowKit Go.Proofs.Ytdpgpnjjonhdhaa.Fp
set_option linter.unusedVariables false

theorem value_small {x : Nat} (h : x < 9223372036854775808) : valueW x = (unitsR x : Int) := by
  unfold valueW
  rw [negW_small h, Nat.mod_eq_of_lt h]; rfl
theorem cmp_small {a b : Nat} (ha : a ≤ 9218868437227405312) (hb : b ≤ 9218868437227405312) : cmpN a b = cmpI (unitsR a) (unitsR b) := by
  rw [cmp_val (rank_small ha).2 (rank_small hb).2, value_small (by omega), value_small (by omega)]
theorem cmp_small_le {a b : Nat} (h : a ≤ b) (hb : b ≤ 9218868437227405312) : cmpN a b ≤ 0 := by
  rw [cmp_small (by omega) hb]
  have := units_le h
  unfold cmpI
  split
  · decide
  · rw [if_neg (by omega)]; decide
theorem cmp_small_ge {a b : Nat} (h : b ≤ a) (ha : a ≤ 9218868437227405312) : 0 ≤ cmpN a b := by
  rw [cmp_small ha (by omega)]
  have := units_le h
  unfold cmpI
  rw [if_neg (by omega)]
  split <;> decide
theorem cmp_small_pos {a : Nat} (h : 0 < a) (ha : a ≤ 9218868437227405312) : cmpN a 0 = 1 := by
  rw [cmp_small ha (by omega), units_zero]
  have := units_lt h
  rw [units_zero] at this
  unfold cmpI
  rw [if_neg (by omega), if_pos (by omega)]
theorem kind_norm {x : Nat} (h1 : 4503599627370496 ≤ x) (h2 : x < 9218868437227405312) : kindN x = 5 := by
  unfold kindN kindI magN
  rw [Nat.mod_eq_of_lt (by omega)]
  rw [if_neg (by omega), if_neg (by omega), if_neg (by omega), if_neg (by omega)]
theorem sclean_again {x : Nat} (h1 : 4562146422526312448 ≤ x) (h2 : x ≤ 4652218415073722368) : sclean x = x := by
  rcases sclean_val (x := x) (by omega) with ⟨_, e⟩ | ⟨c, _⟩
  · rw [e]; omega
  · exact absurd (cmp_small_pos (by omega) (by omega)) c

def lessN : Nat → Nat → Nat
  | 0, u => u
  | n + 1, u => less (lessN n u)
theorem lessN_succ (n u : Nat) : lessN (n + 1) u = less (lessN n u) := rfl
theorem lessN_zero (n : Nat) : lessN n 0 = 0 := by
  induction n with
  | zero => rfl
  | succ n ih => show less (lessN n 0) = 0; rw [ih]; decide +kernel
theorem less_half {r : Nat} (h : r < 9218868437227405312) : less r = halfR r := by
  have := half_word false r h
  simp only [word_d, Bool.false_eq_true, if_false] at this
  unfold less
  exact this
theorem halfR_fin {r : Nat} (h : r < 9218868437227405312) : halfR r < 9218868437227405312 := Nat.lt_of_le_of_lt half_le h
theorem less_rem : ∀ (n r : Nat), r < 9218868437227405312 → Rem r n → lessN n r = 0 := by
  have key : ∀ (n r : Nat), lessN (n + 1) r = lessN n (less r) := by
    intro n
    induction n with
    | zero => intro r; rfl
    | succ n ih => intro r; show less (lessN (n + 1) r) = less (lessN n (less r)); rw [ih]
  intro n
  induction n with
  | zero =>
    intro r h hr
    by_cases h0 : 0 < r
    · have := rem_step h0 hr; omega
    · have : r = 0 := by omega
      subst this; rfl
  | succ n ih =>
    intro r h hr
    by_cases h0 : 0 < r
    · rw [key, less_half h]
      exact ih _ (halfR_fin h) (rem_step h0 hr).2
    · have : r = 0 := by omega
      subst this; exact lessN_zero _
theorem ofN_more : ∀ n : Nat, n < 60 → more (ofN n) = ofN ((n : Int) + 1) := by decide +kernel
theorem ofN_shape : ∀ n : Nat, n < 61 → ofN n = 0 ∨ (9007199254740992 ≤ ofN n ∧ ofN n / 4503599627370496 + 53 ≤ 1200 ∧ ofN n < 9218868437227405312) := by decide +kernel
theorem ofN_nought (n : Nat) (h : n < 61) : lessN 1200 (ofN n) = 0 := by
  rcases ofN_shape n h with e | ⟨h1, h2, h3⟩
  · rw [e]; exact lessN_zero _
  · exact less_rem 1200 _ h3 (.inr (.inr ⟨h1, h2⟩))

theorem bst_none {g : Nat → Bool} (v : Nat → One) : ∀ k, (∀ i, i < k → g i = false) → bst g v k = none
  | 0, _ => rfl
  | k + 1, h => by unfold bst; rw [if_neg (by rw [h k (by omega)]; simp), bst_none v k (fun i hi => h i (by omega))]
theorem pick_nobody (w0 W : World) (R X k B : Nat) (v : Nat → One) (a : Option Addr) (n c : Nat) (z : Nat → Int) (h : Sd w0 W R X k B v) (hn : n ≤ 1000000) (ha : IR W a n z) (hz : ∀ i : Nat, i < k → ¬ iHas z n (i : Int)) (hne : ∀ x, a = some x → x.block ≠ X) :
    Calls Try.prog 12 #[.pointer (some ⟨R, 0, none⟩), .slice a n c] W fun e W' => e = .returned (.int .i64 (-1)) ∧ Sd w0 W' R X k B v ∧ Turn (· = X) W W' := by
  have hg : ∀ i, i < k → (fun i : Nat => decide (iHas z n (i : Int))) i = false := fun i hi => decide_eq_false (hz i hi)
  refine (pick_any R X k v a n c z W hn h.sh ha hne).mono ?_
  rintro e W' ⟨rfl, hs, ht⟩
  have hb := bst_none v k hg
  have hp : pickV v (fun i : Nat => decide (iHas z n (i : Int))) k = v := by unfold pickV; rw [hb]
  rw [hb]
  rw [hp] at hs
  exact ⟨rfl, h.step hs ht, ht⟩

attribute [local irreducible] Int.lt Int.le less more quo aheadI lessN sclean cmpN kindN ofN opN
set_option maxRecDepth 100000 in
set_option maxHeartbeats 4000000 in
theorem shareEdges_walk (a0 a1 : Int) (w : World) (w0 : (Lit.int .u64 a0).wf = true) (w1 : (Lit.int .i64 a1).wf = true) :
    Calls Try.prog 7 #[.int .u64 a0, .int .i64 a1] w fun e w' => e = .returned (.bool true) ∧ Below w.heap.size w w' := by
  obtain ⟨x, rfl, hx⟩ := u64_nat w0
  clear w0 w1
  obtain ⟨y1, y2⟩ := sclean_bounds hx
  obtain ⟨y, hy⟩ : ∃ y, y = sclean x := ⟨_, rfl⟩
  rw [← hy] at y1 y2
  have k1 : kindN y = 5 := kind_norm (by omega) (by omega)
  have k2 : cmpN y 0 = 1 := cmp_small_pos (by omega) (by omega)
  have k3 : decide (0 < cmpN y (ofN 1024)) = false := decide_eq_false (by
    have h1024 : ofN 1024 = 4652218415073722368 := by decide +kernel
    rw [h1024]
    have := cmp_small_le y2 (by omega)
    omega)
  have k4 : quo 4607182418800017408 (ofN 1024) = 4562146422526312448 := by decide +kernel
  have k5 : decide (cmpN y 4562146422526312448 < 0) = false := decide_eq_false (by
    have := cmp_small_ge y1 (by omega)
    omega)
  have k6 : sclean y = y := sclean_again y1 y2
  have k7 : wOk (ofN 1024) := by
    have h1024 : ofN 1024 = 4652218415073722368 := by decide +kernel
    rw [h1024]; exact ⟨by omega, by omega⟩
  have k8 : uOk 4607182418800017408 := ⟨by omega, by decide⟩
  have Hq := Lib.hid (fun W => quo_still k8 k7 W)
  have Hc := Lib.hid (fun W => sclean_any y (by omega) W)
  rw [k4] at Hq
  rw [k6] at Hc
  have yl : y < 18446744073709551616 := by omega
  have Hk := Lib.hid (fun W => kind_any y yl W)
  rw [k1] at Hk
  have hm0 : ∀ W : World, Calls Try.prog 29 #[.int .u64 (y : Int), .int .u64 0] W fun e w' => e = .returned (.int .i64 1) ∧ W = w' := fun W => by
    have := cmp_any y 0 yl (by omega) W
    rw [k2] at this
    exact this
  have Hm0 := Lib.hid hm0
  clear hm0
  have Hm1 := Lib.hid (fun W => cmp_any y (ofN 1024) yl (ofN_lt _) W)
  have Hm2 := Lib.hid (fun W => cmp_any y 4562146422526312448 yl (by omega) W)
  have Ho := Lib.hid (fun W => of_any 1024 W)
  generalize cmpN y (ofN 1024) = c1 at *
  generalize cmpN y 4562146422526312448 = c2 at *
  generalize ofN 1024 = o1 at *
  have Hy := Lib.hid hy
  clear k1 k2 k4 k6 k7 k8 y1 y2 hy yl
  go_enter Try.func7, Try.ntmps7
  go_wp2_with fail
  refine (new_any 3 (by omega) w).mono ?_; rintro e W1 ⟨R, X, rfl, hR, hX, hs, hb⟩
  have S1 := Sd.of_new (Below.refl _ _) hR hX hs hb
  clear hR hX hs hb
  go_wp2_with fail
  refine (set_in R X 3 one0 1 (by omega) x hx W1 S1.sh).mono ?_; rintro e W2 ⟨rfl, hs, ht⟩
  have S2 := S1.step hs ht
  rw [← Hy.out] at S2
  clear S1 hs ht Hy
  generalize W1.heap.size = B at *
  have e0 : (putW one0 1 y 0).w = 4607182418800017408 := rfl
  have e1 : (putW one0 1 y 1).w = y := rfl
  have e2 : (putW one0 1 y 0).u = 0 := rfl
  have e3 : (putW one0 1 y 1).u = ofN ((0 : Nat) : Int) := by show 0 = _; decide +kernel
  generalize putW one0 1 y = v at *
  go_wp2_with fail
  have hw1 := weight_in R X 3 v 1 (by omega) W2 S2.sh
  rw [e1] at hw1
  refine hw1.mono ?_; rintro e W3 ⟨rfl, rfl⟩
  have hw0 := weight_in R X 3 v 0 (by omega) W2 S2.sh
  rw [e0] at hw0
  have Hw0 := Lib.hid hw0
  clear hw1 hw0
  go_wp2_with (first
    | (go_at_call 28; refine (Hk.out _).mono ?_; rintro e w' ⟨rfl, rfl⟩)
    | (go_at_call 11; refine (Ho.out _).mono ?_; rintro e w' ⟨rfl, rfl⟩)
    | (go_at_call 18; refine (Hq.out _).mono ?_; rintro e w' ⟨rfl, rfl⟩)
    | (go_at_call 16; refine (Hc.out _).mono ?_; rintro e w' ⟨rfl, rfl⟩)
    | (go_at_call 19; refine Hw0.out.mono ?_; rintro e w' ⟨rfl, rfl⟩)
    | (go_at_call 17; refine (within_any a1 0 40 (by omega) (by omega) (by omega) _).mono ?_; rintro e w' ⟨rfl, rfl⟩)
    | fail)
  refine (Hm0.out _).mono ?_; rintro e w' ⟨rfl, rfl⟩
  go_wp2_with (first
    | (go_at_call 28; refine (Hk.out _).mono ?_; rintro e w' ⟨rfl, rfl⟩)
    | (go_at_call 11; refine (Ho.out _).mono ?_; rintro e w' ⟨rfl, rfl⟩)
    | (go_at_call 18; refine (Hq.out _).mono ?_; rintro e w' ⟨rfl, rfl⟩)
    | (go_at_call 16; refine (Hc.out _).mono ?_; rintro e w' ⟨rfl, rfl⟩)
    | (go_at_call 19; refine Hw0.out.mono ?_; rintro e w' ⟨rfl, rfl⟩)
    | (go_at_call 17; refine (within_any a1 0 40 (by omega) (by omega) (by omega) _).mono ?_; rintro e w' ⟨rfl, rfl⟩)
    | fail)
  refine (Hm1.out _).mono ?_; rintro e w' ⟨rfl, rfl⟩
  go_wp2_with (first
    | (go_at_call 28; refine (Hk.out _).mono ?_; rintro e w' ⟨rfl, rfl⟩)
    | (go_at_call 11; refine (Ho.out _).mono ?_; rintro e w' ⟨rfl, rfl⟩)
    | (go_at_call 18; refine (Hq.out _).mono ?_; rintro e w' ⟨rfl, rfl⟩)
    | (go_at_call 16; refine (Hc.out _).mono ?_; rintro e w' ⟨rfl, rfl⟩)
    | (go_at_call 19; refine Hw0.out.mono ?_; rintro e w' ⟨rfl, rfl⟩)
    | (go_at_call 17; refine (within_any a1 0 40 (by omega) (by omega) (by omega) _).mono ?_; rintro e w' ⟨rfl, rfl⟩)
    | fail)
  refine (Hm2.out _).mono ?_; rintro e w' ⟨rfl, rfl⟩
  have hwb := within_bounds a1 0 40 (by omega)
  obtain ⟨n, hn⟩ : ∃ n : Nat, withinI a1 0 40 = n := ⟨(withinI a1 0 40).toNat, by omega⟩
  go_wp2_with (first
    | (go_at_call 28; refine (Hk.out _).mono ?_; rintro e w' ⟨rfl, rfl⟩)
    | (go_at_call 11; refine (Ho.out _).mono ?_; rintro e w' ⟨rfl, rfl⟩)
    | (go_at_call 18; refine (Hq.out _).mono ?_; rintro e w' ⟨rfl, rfl⟩)
    | (go_at_call 16; refine (Hc.out _).mono ?_; rintro e w' ⟨rfl, rfl⟩)
    | (go_at_call 19; refine Hw0.out.mono ?_; rintro e w' ⟨rfl, rfl⟩)
    | (go_at_call 17; refine (within_any a1 0 40 (by omega) (by omega) (by omega) _).mono ?_; rintro e w' ⟨rfl, rfl⟩)
    | fail)
  clear Hk Ho Hq Hc Hw0 Hm0 Hm1 Hm2 k3 k5
  rw [hn] at hwb
  clear hn
  go_loopw [8] (fun i wr => ∃ j : Nat, j ≤ n ∧ i = .int .i64 (j : Int) ∧ ∃ v, Sd w wr R X 3 B v ∧ (v 0).u = 0 ∧ (v 1).u = ofN (j : Int)) (fun i _ => n - (intOf i).toNat)
  case atStart => exact ⟨0, Nat.zero_le _, rfl, v, S2, e2, e3⟩
  case round =>
    clear S2 e0 e1 e2 e3
    obtain ⟨j, hj, rfl, v, S, e2, e3⟩ := hrel
    by_cases hlt : j < n
    · have l1 : (j : Int) < (n : Int) := by omega
      have l0 : (0 : Int) ≤ (j : Int) := by omega
      have E2 := Lib.hid e2
      have E3 := Lib.hid e3
      have hmo := Lib.hid (ofN_more j (by omega))
      clear e2 e3
      go_wp2_with fail
      refine (run_in R X 3 v 1 (by omega) wr S.sh).mono ?_; rintro e W3 ⟨rfl, hs, ht⟩
      have S3 := S.step hs ht
      have f2 : (putU v 1 (more (v 1).u) 0).u = 0 := by rw [show putU v 1 (more (v 1).u) 0 = v 0 from rfl]; exact E2.out
      have f3 : (putU v 1 (more (v 1).u) 1).u = ofN ((j : Int) + 1) := by rw [← hmo.out, ← E3.out]; rfl
      have F := Lib.hid (And.intro f2 f3)
      clear hs ht S f2 f3
      go_wp2_with fail
      exact ⟨⟨j + 1, by omega, by go_num, _, S3, F.out.1, F.out.2⟩, by simp [intOf]; omega⟩
    · obtain rfl : j = n := by omega
      have hu1 := used_in R X 3 v 1 (by omega) wr S.sh
      have hu0 := used_in R X 3 v 0 (by omega) wr S.sh
      rw [e3] at hu1
      rw [e2] at hu0
      have hof := of_any j wr
      have Hu1 := Lib.hid hu1
      have Hu0 := Lib.hid hu0
      have Hof := Lib.hid hof
      have hno := Lib.hid (ofN_nought j (by omega))
      have E3 := Lib.hid e3
      clear hu1 hu0 hof e2 e3
      go_wp2_with fail
      refine Hu1.out.mono ?_; rintro e W3 ⟨rfl, rfl⟩
      go_wp2_with fail
      refine Hof.out.mono ?_; rintro e W3 ⟨rfl, rfl⟩
      go_wp2_with fail
      refine Hu0.out.mono ?_; rintro e W3 ⟨rfl, rfl⟩
      go_wp2_with fail
      clear Hu1 Hu0 Hof
      have T0 : lessN 0 (v 1).u = (v 1).u := by unfold lessN; rfl
      have hnz : lessN 1200 (v 1).u = 0 := by rw [E3.out]; exact hno.out
      have Hnz := Lib.hid hnz
      clear hnz hno E3
      obtain ⟨u, hu⟩ : ∃ u, u = (v 1).u := ⟨_, rfl⟩
      rw [← hu] at T0 Hnz
      have hst : ∃ v, Sd w wr R X 3 B v ∧ (v 1).u = lessN 0 u := ⟨v, S, by rw [T0, hu]⟩
      clear S hu T0
      go_loopw [9] (fun i wr => ∃ j : Nat, j ≤ 1200 ∧ i = .int .i64 (j : Int) ∧ ∃ v, Sd w wr R X 3 B v ∧ (v 1).u = lessN j u) (fun i _ => 1200 - (intOf i).toNat)
      case atStart => exact ⟨0, Nat.zero_le _, rfl, hst⟩
      case round =>
        clear hst v
        obtain ⟨q, hq, rfl, v, S, e3⟩ := hrel
        by_cases hlt : q < 1200
        · have l1 : (q : Int) < 1200 := by omega
          have l0 : (0 : Int) ≤ (q : Int) := by omega
          have E3 := Lib.hid e3
          clear e3
          go_wp2_with fail
          refine (halve_any R X 3 v _ S.sh).mono ?_; rintro e W3 ⟨rfl, hs, ht⟩
          have S3 := S.step hs ht
          have f3 : (halved v 3 1).u = lessN (q + 1) u := by
            have h1 : lessN (q + 1) u = less (lessN q u) := lessN_succ q u
            rw [h1, ← E3.out]; rfl
          have F := Lib.hid f3
          clear hs ht S f3
          go_wp2_with fail
          exact ⟨⟨q + 1, by omega, by go_num, _, S3, F.out⟩, by simp [intOf]; omega⟩
        · obtain rfl : q = 1200 := by omega
          rw [Hnz.out] at e3
          have hu1 := used_in R X 3 v 1 (by omega) _ S.sh
          rw [e3] at hu1
          have Hu1 := Lib.hid hu1
          clear hu1 e3
          go_wp2_with fail
          refine Hu1.out.mono ?_; rintro e W3 ⟨rfl, rfl⟩
          clear Hu1
          go_wp2_with fail
          refine (pick_nobody w _ R X 3 B v none 0 0 (fun _ => 0) S (by omega) (fun i hi => absurd hi (by omega)) (fun i _ ⟨q, hq, _⟩ => absurd hq (by omega)) (fun x hx => by cases hx)).mono ?_; rintro e W4 ⟨rfl, S4, t4⟩
          clear S t4
          go_wp2_with fail
          have a0 := alloc_cell W4 #[.int .i64 9, .int .i64 (-1)] 3 0 _ rfl
          have a1 := alloc_cell W4 #[.int .i64 9, .int .i64 (-1)] 3 1 _ rfl
          have S5 := S4.alloc (.cells #[.int .i64 9, .int .i64 (-1)] 3)
          have hbl := S4.bw
          have hxb := S4.xb
          clear S4
          generalize W4.alloc (.cells #[.int .i64 9, .int .i64 (-1)] 3) = W5 at *
          generalize W4.heap.size = G at *
          refine (pick_nobody w W5 R X 3 B v (some ⟨G, 0, none⟩) 2 2 (fun i => if i = 0 then 9 else -1) S5 (by omega) (fun i hi2 => ⟨_, rfl, by
            rcases (show i = 0 ∨ i = 1 by omega) with rfl | rfl
            · exact a0
            · exact a1⟩) (fun i hi3 ⟨q, hq, hz⟩ => by
              simp only at hz
              by_cases c : q = 0
              · rw [if_pos c] at hz; omega
              · rw [if_neg c] at hz; omega) (fun x hx => by cases hx; show G ≠ X; omega)).mono ?_; rintro e W6 ⟨rfl, S6, t6⟩
          clear S5 a0 a1 t6
          go_wp2_with fail
          refine (runs_any W6).mono ?_; rintro e W7 ⟨rfl, t7⟩
          have bF := S6.bel.trans (t7.mono S6.bel.size)
          clear S6 t7
          go_wp2_with fail
          go_ret
          exact ⟨rfl, bF⟩
end Go.Proofs.Ytdpgpnjjonhdhaa.St
