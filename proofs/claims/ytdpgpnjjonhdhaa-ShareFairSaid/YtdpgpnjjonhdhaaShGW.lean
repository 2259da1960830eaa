/- ShareFair: the walk. No condition but those written in each statement. -/
import Derived.Test.YtdpgpnjjonhdhaaShG
import Derived.Laws.OwnMore
namespace Go.Proofs.Ytdpgpnjjonhdhaa.St
open Go.RowKit Go.Proofs.Ytdpgpnjjonhdhaa.Fp
set_option linter.unusedVariables false

theorem OL.one {B : Nat} {W : World} (hB : B ≤ W.heap.size) (x : Int) : OL B (W.alloc (.cells #[.int .i64 x] 3)) (.slice (some ⟨W.heap.size, 0, none⟩) 1 1) [x] :=
  World.ownsRow_lit (size := 1) W #[.int .i64 x] 1 hB (by unfold maxLen; omega) rfl
theorem mem_iHas {ps : List Int} {x : Int} (h : x ∈ ps) : iHas (fun i => ps.getD i 0) ps.length x := by
  obtain ⟨i, hi, e⟩ := List.mem_iff_getElem.1 h
  exact ⟨i, hi, by simp [List.getD, hi, e]⟩

theorem addr0 (G j : Nat) : (⟨G, 0, none⟩ : Addr).add j = ⟨G, j, none⟩ := by unfold Addr.add; split <;> simp_all

attribute [local irreducible] Int.lt Int.le less more quo aheadI sclean ofN opN
set_option maxRecDepth 100000 in
set_option maxHeartbeats 8000000 in
theorem shareFair_walk (a0 a1 : Int) (a2 : Option Addr) (len2 cap2 : Nat) (z2 : List Int) (a3 : Option Addr) (len3 cap3 : Nat) (w : World) (w0 : (Lit.int .i64 a0).wf = true) (w1 : (Lit.int .i64 a1).wf = true) (w2 : IsRow .u64 w a2 len2 cap2 z2) (w3 : IsMixS [.ints .i64] w a3 len3 cap3) :
    Calls Try.prog 4 #[.int .i64 a0, .int .i64 a1, .slice a2 len2 cap2, .slice a3 len3 cap3] w fun e w' => e = .returned (.bool true) ∧ Below w.heap.size w w' := by
  obtain ⟨i0, hi, hz0, hz1, hz2⟩ := info_parts info_int
  have m2 := row_len w2
  unfold maxLen at m2
  have m3 : len3 ≤ 9223372036854775807 := by
    rcases w3 with ⟨_, h, _⟩ | ⟨_, _, h1, h2, _⟩
    · omega
    · unfold maxLen at h2; omega
  have kb := within_bounds a0 1 6 (by omega)
  obtain ⟨k, hk⟩ : ∃ k : Nat, withinI a0 1 6 = (k : Int) := ⟨(withinI a0 1 6).toNat, by omega⟩
  rw [hk] at kb
  have nb := within_bounds a1 0 ((k : Int) - 1) (by omega)
  obtain ⟨me, hn⟩ : ∃ n : Nat, withinI a1 0 ((k : Int) - 1) = (n : Int) := ⟨(withinI a1 0 ((k : Int) - 1)).toNat, by omega⟩
  rw [hn] at nb
  have Wk := fun W => within_any a0 1 6 (by omega) (by omega) (by omega) W
  rw [hk] at Wk
  have Wn := fun W => within_any a1 0 ((k : Int) - 1) (by omega) (by omega) (by omega) W
  rw [hn] at Wn
  have Hk := Lib.hid Wk
  have Hn := Lib.hid Wn
  clear hk hn Wk Wn w0 w1
  go_enter Try.func4, Try.ntmps4
  go_wp2_with fail
  refine (Hk.out _).mono ?_; rintro e W1 ⟨rfl, rfl⟩
  clear Hk
  go_wp2_with fail
  refine (new_any k (by omega) w).mono ?_; rintro e W1 ⟨R, X, rfl, hR, hX, hs, hb⟩
  have S := Sd.of_new (Below.refl _ _) hR hX hs hb
  clear hR hX hs hb
  generalize W1.heap.size = B at *
  go_wp2_with fail
  go_loopw [11] (fun i wr => ∃ j : Nat, j ≤ 6 ∧ i = .int .i64 (j : Int) ∧ ∃ v, Sd w wr R X k B v ∧ ∀ i, (v i).p = 0) (fun i _ => 6 - (intOf i).toNat)
  case atStart => exact ⟨0, Nat.zero_le _, rfl, one0, S, fun _ => rfl⟩
  case round =>
    clear S
    obtain ⟨j, hj, rfl, v, S, hp⟩ := hrel
    by_cases hlt : j < len2 ∧ j < k
    · obtain ⟨q1, q2⟩ := hlt
      have l1 : (j : Int) < (len2 : Int) := by omega
      have l2 : (j : Int) < (k : Int) := by omega
      have l0 : (0 : Int) ≤ (j : Int) := by omega
      obtain ⟨x, rfl, x0, xw⟩ := row_at w2 j q1
      obtain ⟨y, hy, hy2⟩ := u64_nat xw
      rw [hy] at x0
      have x1 := (S.bel.cell (cell_block_lt x0)).trans x0
      have hp2 : ∀ i, (putW v j (sclean y) i).p = 0 := fun i => by
        unfold putW
        by_cases c : i = j
        · rw [if_pos c]; exact hp j
        · rw [if_neg c]; exact hp i
      have Hp2 := Lib.hid hp2
      clear hy xw x0 hp hp2
      go_wp2_with fail
      refine (set_in R X k v j q2 y hy2 wr S.sh).mono ?_; rintro e W3 ⟨rfl, hs, ht⟩
      have S3 := S.step hs ht
      clear S hs ht x1
      go_wp2_with fail
      exact ⟨⟨j + 1, by omega, by go_num, _, S3, Hp2.out⟩, by simp [intOf]; omega⟩
    · have hq : (len2 : Int) ≤ (j : Int) ∨ ((j : Int) < (len2 : Int) ∧ (k : Int) ≤ (j : Int)) := by omega
      have l0 : (0 : Int) ≤ (j : Int) := by omega
      have hF := Fr.start (k := k) (hp me)
      have HS := Lib.hid (And.intro S hF)
      clear hlt w2 S hp hF
      rcases hq with hq | ⟨hq, hq2⟩
      all_goals
        go_wp2_with fail
        refine (Hn.out _).mono ?_; rintro e W3 ⟨rfl, rfl⟩
        go_wp2_with fail
        obtain ⟨S, hF⟩ := HS.out
        clear HS
        go_loopw [13, 14] (fun la i wr => ∃ q : Nat, 1 ≤ q ∧ q ≤ 121 ∧ i = .int .i64 (q : Int) ∧ ∃ l : Nat, l + 1 ≤ q ∧ la = .int .i64 (l : Int) ∧ ∃ v, Sd w wr R X k B v ∧ Fr k me v (q - 1 - l)) (fun _ i _ => 121 - (intOf i).toNat)
        case atStart => exact ⟨1, by omega, by omega, rfl, 0, by omega, rfl, v, S, hF⟩
        case round =>
          clear S hF v
          obtain ⟨q, hq1, hq2, rfl, l, hl, rfl, v, S, hF⟩ := hrel
          by_cases hlt : q < 121
          · have l1 : (q : Int) ≤ 120 := by omega
            have l0 : (0 : Int) ≤ (q : Int) := by omega
            have HS := Lib.hid (And.intro S hF)
            have hbw := S.bw
            clear S hF
            go_upto_region 15 with fail
            have O3 : OL B _ _ [(me : Int)] := OL.one hbw (me : Int)
            have S3 := HS.out.1.alloc (.cells #[.int .i64 (me : Int)] 3)
            have hF3 := HS.out.2
            clear HS
            generalize wr.alloc (.cells #[.int .i64 (me : Int)] 3) = W3 at *
            generalize wr.heap.size = G at *
            by_cases c3 : len3 = 0
            · subst c3
              obtain ⟨a, c, e, ir, hbl⟩ := O3.ir
              have hmem := mem_iHas (ps := [(me : Int)]) (x := (me : Int)) (by simp)
              simp only [List.length_cons, List.length_nil, Nat.zero_add] at ir hmem e
              have ea : some (⟨G, 0, none⟩ : Addr) = a := by injection e
              have ec : 1 = c := by injection e
              subst ea ec
              clear e O3 w3
              have HS := Lib.hid (And.intro S3 hF3)
              clear S3 hF3
              go_upto_region 23 with fail
              have S := HS.out.1
              have hF := HS.out.2
              have hxb := S.xb
              generalize hZ : (fun i => [(me : Int)].getD i 0) = z at *
              have hgm : decide (iHas z 1 (me : Int)) = true := decide_eq_true hmem
              obtain ⟨b, hb⟩ := bst_some (g := fun i : Nat => decide (iHas z 1 (i : Int))) v k ⟨me, by omega, hgm⟩
              obtain ⟨hbk, hgb⟩ := bst_lt _ v k b hb
              have hb2 : iHas z 1 (b : Int) := of_decide_eq_true hgb
              obtain ⟨F1, F2⟩ := hF.step (by omega) (by omega) (fun i : Nat => decide (iHas z 1 (i : Int))) hgm b hb
              have pk := pick_any R X k v (some (⟨G, 0, none⟩ : Addr)) 1 1 z _ (by omega) S.sh ir (fun x hx => by have := hbl x hx; omega)
              rw [hb] at pk
              generalize hV : pickV v (fun i : Nat => decide (iHas z 1 (i : Int))) k = v' at *
              have Hpk := Lib.hid pk
              have Hbl := Lib.hid hbl
              have HF := Lib.hid (And.intro F1 F2)
              have Hb2 := Lib.hid hb2
              have HSS := Lib.hid S
              clear pk hbl F1 F2 hb2 hb hgb hgm S hF HS hZ hV hmem
              rw [show obI (some b) = (b : Int) from rfl] at Hpk
              go_wp2_with fail
              refine Hpk.out.mono ?_; rintro e1 W5 ⟨rfl, hs5, t5⟩
              have S5 := HSS.out.step hs5 t5
              have ir5 := ir.turn t5 (fun x hx => by have := Hbl.out x hx; omega)
              clear Hpk HSS hs5 t5 ir
              go_wp2_with fail
              go_loopw [20, 94] (fun p i wr2 => ∃ j : Nat, j ≤ 1 ∧ i = .int .i64 (j : Int) ∧ p = .bool (decide (∃ t, t < j ∧ z t = (b : Int))) ∧ wr2 = W5) (fun _ i _ => 1 - (intOf i).toNat)
              case atStart => exact ⟨0, Nat.zero_le _, rfl, by rw [decide_eq_false (fun ⟨t, q, _⟩ => by omega)], rfl⟩
              case round =>
                obtain ⟨j, hj, rfl, rfl, rfl⟩ := hrel
                by_cases hjl : j < 1
                · have j1 : (j : Int) < (1 : Int) := by omega
                  have j0 : (0 : Int) ≤ (j : Int) := by omega
                  obtain ⟨x, ex, x0⟩ := ir5 j hjl
                  cases ex
                  try rw [addr0] at x0
                  have hd : decide (∃ t, t < j + 1 ∧ z t = (b : Int)) = (decide (∃ t, t < j ∧ z t = (b : Int)) || (z j == (b : Int))) := by
                    rw [Bool.eq_iff_iff]
                    simp only [decide_eq_true_eq, Bool.or_eq_true, beq_iff_eq]
                    exact ⟨fun ⟨t, q, e⟩ => by
                      by_cases c : t = j
                      · subst c; exact .inr e
                      · exact .inl ⟨t, by omega, e⟩, fun q => by
                      rcases q with ⟨t, q, e⟩ | e
                      · exact ⟨t, by omega, e⟩
                      · exact ⟨j, by omega, e⟩⟩
                  have HS5 := Lib.hid (And.intro S5 ir5)
                  clear S5 ir5
                  generalize z j = y at *
                  generalize decide (∃ t, t < j ∧ z t = (b : Int)) = d1 at *
                  generalize hd2 : decide (∃ t, t < j + 1 ∧ z t = (b : Int)) = d2 at *
                  have Hd2 := Lib.hid hd2
                  clear hd2
                  cases d1 with
                  | true =>
                    have Hd := Lib.hid hd
                    clear hd
                    go_wp2_with fail
                    exact ⟨⟨j + 1, by omega, by go_num, by rw [Hd2.out, Hd.out]; rfl, by first | rfl | trivial⟩, by simp [intOf]; omega⟩
                  | false =>
                    have Hd := Lib.hid hd
                    clear hd
                    go_wp2_with fail
                    exact ⟨⟨j + 1, by omega, by go_num, by rw [Hd2.out, Hd.out]; rfl, by first | rfl | trivial⟩, by simp [intOf]; omega⟩
                · have hjn : j = 1 := by omega
                  have j1 : (1 : Int) ≤ (j : Int) := by omega
                  have hd : decide (∃ t, t < j ∧ z t = (b : Int)) = true := by rw [hjn]; exact decide_eq_true Hb2.out
                  clear hjn
                  have Hrn := Lib.hid (run_in R X k v' b hbk _ S5.sh)
                  have HS5 := Lib.hid S5
                  clear S5 ir5
                  rw [hd]
                  clear hd
                  by_cases e : b = me
                  · have e2 : (b : Int) = (me : Int) := by omega
                    have F := Lib.hid ((HF.out.1 e).putU b (more (v' b).u))
                    clear HF
                    subst e
                    clear e2
                    have c0 : decide ((21 : Int) + (k : Int) < 0) = false := decide_eq_false (by omega)
                    go_wp2_with fail
                    refine Hrn.out.mono ?_; rintro e1 W6 ⟨rfl, hs6, t6⟩
                    have S6 := HS5.out.step hs6 t6
                    clear Hrn HS5 hs6 t6
                    go_wp2_with fail
                    exact ⟨⟨q + 1, by omega, by omega, by go_num, q, by omega, by go_num, _, S6, by rw [show q + 1 - 1 - q = 0 by omega]; exact F.out⟩, by simp [intOf]; omega⟩
                  · have e2 : ((b : Int) == (me : Int)) = false := beq_eq_false_iff_ne.2 (by omega)
                    have e3 : ¬ (b : Int) = (me : Int) := by omega
                    have F0 := HF.out.2 e
                    have hle := F0.le
                    have F := Lib.hid (F0.putU b (more (v' b).u))
                    have c0 : (q : Int) - (l : Int) ≤ 21 + (k : Int) := by omega
                    have c1 : decide ((21 : Int) + (k : Int) < (q : Int) - (l : Int)) = false := decide_eq_false (by omega)
                    clear HF F0 e
                    go_wp2_with fail
                    refine Hrn.out.mono ?_; rintro e1 W6 ⟨rfl, hs6, t6⟩
                    have S6 := HS5.out.step hs6 t6
                    clear Hrn HS5 hs6 t6
                    go_wp2_with fail
                    exact ⟨⟨q + 1, by omega, by omega, by go_num, l, by omega, by go_num, _, S6, by rw [show q + 1 - 1 - l = q - 1 - l + 1 by omega]; exact F.out⟩, by simp [intOf]; omega⟩
            · have c4 : 0 < len3 := by omega
              have hidx : q % len3 < len3 := Nat.mod_lt _ (by omega)
              have hrem : (q : Int).tmod (len3 : Int) = ((q % len3 : Nat) : Int) := by rw [Int.tmod_eq_emod_of_nonneg (by omega)]; simp
              generalize q % len3 = idx at *
              obtain ⟨x3, rfl, qa, ql, qc, zq, hrow, hc0⟩ : ∃ x3, a3 = some x3 ∧ ∃ qa ql qc zq, IsRow .i64 w qa ql qc zq ∧ w.cell? (x3.add idx) = some (.slice qa ql qc) := by
                rcases w3 with ⟨_, h, _⟩ | ⟨x3, h0, _, _, hx⟩
                · omega
                · obtain ⟨v3, h1, a', l', c', zs', rfl, h2⟩ := hx idx hidx 0 (.ints .i64) rfl
                  refine ⟨x3, h0, a', l', c', zs', h2, ?_⟩
                  simpa using h1
              have hcl := (S3.bel.cell (cell_block_lt hc0)).trans hc0
              have hql := row_len hrow
              unfold maxLen at hql
              have i0' : (0 : Int) ≤ (idx : Int) := by omega
              have i1' : (idx : Int) < (len3 : Int) := by omega
              have hlen9 : [(me : Int)].length ≤ 9 := by simp
              have hme9 : (me : Int) ∈ [(me : Int)] := by simp
              have HS3 := Lib.hid (And.intro S3 (And.intro O3 (And.intro hlen9 hme9)))
              have HF3 := Lib.hid hF3
              clear hc0 S3 O3 hF3 w3 hlen9 hme9
              go_wp2_with fail
              obtain ⟨S3, O3, hlen9, hme9⟩ := HS3.out
              clear HS3 hcl hrem i0' i1'
              go_loopw [15, 68] (fun p i wr2 => ∃ j : Nat, j ≤ ql ∧ i = .int .i64 (j : Int) ∧ ∃ ps, OL B wr2 p ps ∧ ps.length ≤ 9 ∧ (me : Int) ∈ ps ∧ Sd w wr2 R X k B v) (fun _ i _ => ql - (intOf i).toNat)
              case atStart => exact ⟨0, Nat.zero_le _, rfl, _, O3, hlen9, hme9, S3⟩
              case round =>
                clear S3 O3 hlen9 hme9
                obtain ⟨j, hj, rfl, ps, O, h9, hme, S⟩ := hrel
                by_cases hjq : j < ql
                · have j1 : (j : Int) < (ql : Int) := by omega
                  have j0 : (0 : Int) ≤ (j : Int) := by omega
                  obtain ⟨x, rfl, x0, _⟩ := row_at hrow j hjq
                  have x1 := (S.bel.cell (cell_block_lt x0)).trans x0
                  generalize zq.getD j 0 = y at *
                  have hbw2 := S.bw
                  have Hwi := Lib.hid (fun W => within_any y 0 ((k : Int) - 1) (by omega) (by omega) (by omega) W)
                  have HS := Lib.hid (And.intro S hme)
                  have HO := Lib.hid O
                  obtain ⟨a, c, rfl, _⟩ := O.ir
                  clear x0 S hme O
                  go_wp2_with fail
                  refine (Hwi.out _).mono ?_; rintro e1 W7 ⟨rfl, rfl⟩
                  clear Hwi x1
                  generalize withinI y 0 ((k : Int) - 1) = yy at *
                  rcases (show (yy = (me : Int)) ∨ (¬ yy = (me : Int) ∧ (9 : Int) ≤ (ps.length : Int)) ∨ (¬ yy = (me : Int) ∧ (ps.length : Int) < 9) by omega) with rfl | ⟨n1, n2⟩ | ⟨n1, n2⟩
                  · go_wp2_with fail
                    exact ⟨⟨j + 1, by omega, by go_num, _, HO.out, h9, HS.out.2, HS.out.1⟩, by simp [intOf]; omega⟩
                  · have n3 : (yy == (me : Int)) = false := beq_eq_false_iff_ne.2 n1
                    go_wp2_with fail
                    exact ⟨⟨j + 1, by omega, by go_num, _, HO.out, h9, HS.out.2, HS.out.1⟩, by simp [intOf]; omega⟩
                  · have n3 : (yy == (me : Int)) = false := beq_eq_false_iff_ne.2 n1
                    go_wp2_with (first
                      | (at_builtin; refine wpList_append_own _ rfl _ _ 27 rfl B 3 i0 (.int .i64 0) 1 8 Try.underlying27 hi hz0 hz1 hz2 rfl (by decide) _ _ _ rfl (World.ownsRow.alloc HO.out _) ⟨_, 0, none⟩ 1 1 [.int .i64 yy] rfl rfl ?c1 ?c2 ?c3 ?c4 ?c5 ?_)
                      | fail)
                    case c1 =>
                      intro j u hj
                      match j, hj with
                      | 0, hj => simp at hj; subst hj; simp [Addr.add]
                    case c2 => intro u hu; simp at hu; subst hu; rfl
                    case c3 => unfold maxLen; omega
                    case c4 => omega
                    case c5 => simp; omega
                    intro v' W8 hown' hgrow _
                    have RR := ol_push hbw2 HO.out hown' hgrow
                    have S8 := HS.out.1.below RR.2
                    have O8 := RR.1
                    have hme8 : (me : Int) ∈ ps ++ [yy] := by simp [HS.out.2]
                    have h98 : (ps ++ [yy]).length ≤ 9 := by simp; omega
                    clear hown' hgrow HO HS RR
                    go_wp2_with fail
                    exact ⟨⟨j + 1, by omega, by go_num, _, O8, h98, hme8, S8⟩, by simp [intOf]; omega⟩
                · obtain rfl : j = ql := by omega
                  have hmem := mem_iHas hme
                  obtain ⟨a, c, rfl, ir, hbl⟩ := O.ir
                  have HS := Lib.hid (And.intro S HF3.out)
                  clear S HF3 O hme hrow
                  generalize ps.length = n at *
                  go_upto_region 23 with fail
                  have S := HS.out.1
                  have hF := HS.out.2
                  have hxb := S.xb
                  generalize hZ : (fun i => ps.getD i 0) = z at *
                  have hgm : decide (iHas z n (me : Int)) = true := decide_eq_true hmem
                  obtain ⟨b, hb⟩ := bst_some (g := fun i : Nat => decide (iHas z n (i : Int))) v k ⟨me, by omega, hgm⟩
                  obtain ⟨hbk, hgb⟩ := bst_lt _ v k b hb
                  have hb2 : iHas z n (b : Int) := of_decide_eq_true hgb
                  obtain ⟨F1, F2⟩ := hF.step (by omega) (by omega) (fun i : Nat => decide (iHas z n (i : Int))) hgm b hb
                  have pk := pick_any R X k v a n c z _ (by omega) S.sh ir (fun x hx => by have := hbl x hx; omega)
                  rw [hb] at pk
                  generalize hV : pickV v (fun i : Nat => decide (iHas z n (i : Int))) k = v' at *
                  have Hpk := Lib.hid pk
                  have Hbl := Lib.hid hbl
                  have HF := Lib.hid (And.intro F1 F2)
                  have Hb2 := Lib.hid hb2
                  have HSS := Lib.hid S
                  clear pk hbl F1 F2 hb2 hb hgb hgm S hF HS hZ hV hmem
                  rw [show obI (some b) = (b : Int) from rfl] at Hpk
                  go_wp2_with fail
                  refine Hpk.out.mono ?_; rintro e1 W5 ⟨rfl, hs5, t5⟩
                  have S5 := HSS.out.step hs5 t5
                  have ir5 := ir.turn t5 (fun x hx => by have := Hbl.out x hx; omega)
                  clear Hpk HSS hs5 t5 ir
                  go_wp2_with fail
                  go_loopw [20, 94] (fun p i wr2 => ∃ j : Nat, j ≤ n ∧ i = .int .i64 (j : Int) ∧ p = .bool (decide (∃ t, t < j ∧ z t = (b : Int))) ∧ wr2 = W5) (fun _ i _ => n - (intOf i).toNat)
                  case atStart => exact ⟨0, Nat.zero_le _, rfl, by rw [decide_eq_false (fun ⟨t, q, _⟩ => by omega)], rfl⟩
                  case round =>
                    obtain ⟨j, hj, rfl, rfl, rfl⟩ := hrel
                    by_cases hjl : j < n
                    · have j1 : (j : Int) < (n : Int) := by omega
                      have j0 : (0 : Int) ≤ (j : Int) := by omega
                      obtain ⟨x, ex, x0⟩ := ir5 j hjl
                      cases ex
                      try rw [addr0] at x0
                      have hd : decide (∃ t, t < j + 1 ∧ z t = (b : Int)) = (decide (∃ t, t < j ∧ z t = (b : Int)) || (z j == (b : Int))) := by
                        rw [Bool.eq_iff_iff]
                        simp only [decide_eq_true_eq, Bool.or_eq_true, beq_iff_eq]
                        exact ⟨fun ⟨t, q, e⟩ => by
                          by_cases c : t = j
                          · subst c; exact .inr e
                          · exact .inl ⟨t, by omega, e⟩, fun q => by
                          rcases q with ⟨t, q, e⟩ | e
                          · exact ⟨t, by omega, e⟩
                          · exact ⟨j, by omega, e⟩⟩
                      have HS5 := Lib.hid (And.intro S5 ir5)
                      clear S5 ir5
                      generalize z j = y at *
                      generalize decide (∃ t, t < j ∧ z t = (b : Int)) = d1 at *
                      generalize hd2 : decide (∃ t, t < j + 1 ∧ z t = (b : Int)) = d2 at *
                      have Hd2 := Lib.hid hd2
                      clear hd2
                      cases d1 with
                      | true =>
                        have Hd := Lib.hid hd
                        clear hd
                        go_wp2_with fail
                        exact ⟨⟨j + 1, by omega, by go_num, by rw [Hd2.out, Hd.out]; rfl, by first | rfl | trivial⟩, by simp [intOf]; omega⟩
                      | false =>
                        have Hd := Lib.hid hd
                        clear hd
                        go_wp2_with fail
                        exact ⟨⟨j + 1, by omega, by go_num, by rw [Hd2.out, Hd.out]; rfl, by first | rfl | trivial⟩, by simp [intOf]; omega⟩
                    · have hjn : j = n := by omega
                      have j1 : (n : Int) ≤ (j : Int) := by omega
                      have hd : decide (∃ t, t < j ∧ z t = (b : Int)) = true := by rw [hjn]; exact decide_eq_true Hb2.out
                      clear hjn
                      have Hrn := Lib.hid (run_in R X k v' b hbk _ S5.sh)
                      have HS5 := Lib.hid S5
                      clear S5 ir5
                      rw [hd]
                      clear hd
                      by_cases e : b = me
                      · have e2 : (b : Int) = (me : Int) := by omega
                        have F := Lib.hid ((HF.out.1 e).putU b (more (v' b).u))
                        clear HF
                        subst e
                        clear e2
                        have c0 : decide ((21 : Int) + (k : Int) < 0) = false := decide_eq_false (by omega)
                        go_wp2_with fail
                        refine Hrn.out.mono ?_; rintro e1 W6 ⟨rfl, hs6, t6⟩
                        have S6 := HS5.out.step hs6 t6
                        clear Hrn HS5 hs6 t6
                        go_wp2_with fail
                        exact ⟨⟨q + 1, by omega, by omega, by go_num, q, by omega, by go_num, _, S6, by rw [show q + 1 - 1 - q = 0 by omega]; exact F.out⟩, by simp [intOf]; omega⟩
                      · have e2 : ((b : Int) == (me : Int)) = false := beq_eq_false_iff_ne.2 (by omega)
                        have e3 : ¬ (b : Int) = (me : Int) := by omega
                        have F0 := HF.out.2 e
                        have hle := F0.le
                        have F := Lib.hid (F0.putU b (more (v' b).u))
                        have c0 : (q : Int) - (l : Int) ≤ 21 + (k : Int) := by omega
                        have c1 : decide ((21 : Int) + (k : Int) < (q : Int) - (l : Int)) = false := decide_eq_false (by omega)
                        clear HF F0 e
                        go_wp2_with fail
                        refine Hrn.out.mono ?_; rintro e1 W6 ⟨rfl, hs6, t6⟩
                        have S6 := HS5.out.step hs6 t6
                        clear Hrn HS5 hs6 t6
                        go_wp2_with fail
                        exact ⟨⟨q + 1, by omega, by omega, by go_num, l, by omega, by go_num, _, S6, by rw [show q + 1 - 1 - l = q - 1 - l + 1 by omega]; exact F.out⟩, by simp [intOf]; omega⟩
          · obtain rfl : q = 121 := by omega
            clear hlt hF
            go_wp2_with fail
            refine (runs_any wr).mono ?_; rintro e1 W5 ⟨rfl, t5⟩
            have bF := S.bel.trans (t5.mono S.bel.size)
            clear S t5
            go_wp2_with fail
            go_ret
            exact ⟨rfl, bF⟩
end Go.Proofs.Ytdpgpnjjonhdhaa.St
