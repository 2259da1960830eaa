/- The contract of the document's Pick (cloisterref21). No condition but those written in each statement. -/
import Derived.Test.YtdpgpnjjonhdhaaShL
namespace Go.Proofs.Ytdpgpnjjonhdhaa.St
open Go.RowKit Go.Proofs.Ytdpgpnjjonhdhaa.Fp Ieee
set_option linter.unusedVariables false

theorem info_bool : (Try.prog.info? 4).map (fun i => (i.zero, i.size, i.bytes)) = some (some (.bool false), 1, 1) := by kernel_rfl
def inB (z : Nat → Int) (j i : Nat) : Bool := decide (∃ t, t < j ∧ z t = (i : Int))
theorem inB_zero (z : Nat → Int) (i : Nat) : inB z 0 i = false := decide_eq_false (fun ⟨t, h, _⟩ => by omega)
theorem inB_hit (z : Nat → Int) (j i : Nat) (h : z j = (i : Int)) : ∀ q, (if q = i then true else inB z j q) = inB z (j + 1) q := by
  intro q
  unfold inB
  by_cases e : q = i
  · subst e; rw [if_pos rfl]; exact (decide_eq_true ⟨j, by omega, h⟩).symm
  · rw [if_neg e]
    apply decide_eq_decide.2
    exact ⟨fun ⟨t, a, b⟩ => ⟨t, by omega, b⟩, fun ⟨t, a, b⟩ => by
      by_cases c : t = j
      · subst c; rw [h] at b; omega
      · exact ⟨t, by omega, b⟩⟩
theorem inB_miss (z : Nat → Int) (j k : Nat) (h : ¬ (0 ≤ z j ∧ z j < (k : Int))) : ∀ q, q < k → inB z j q = inB z (j + 1) q := by
  intro q hq
  unfold inB
  apply decide_eq_decide.2
  exact ⟨fun ⟨t, a, b⟩ => ⟨t, by omega, b⟩, fun ⟨t, a, b⟩ => by
    by_cases c : t = j
    · subst c; rw [b] at h; omega
    · exact ⟨t, by omega, b⟩⟩
theorem inB_all (z : Nat → Int) (n i : Nat) : inB z n i = decide (iHas z n (i : Int)) := rfl

/-- The first j of the list, but b, have been passed over once more. -/
def passR (v : Nat → One) (g : Nat → Bool) (b j : Nat) : Nat → One := fun i => if i < j ∧ g i = true ∧ i ≠ b then { v i with p := min ((v i).p + 1) 21 } else v i
theorem passR_zero (v : Nat → One) (g : Nat → Bool) (b : Nat) : passR v g b 0 = v := by funext i; unfold passR; rw [if_neg (by omega)]
theorem passR_at (v : Nat → One) (g : Nat → Bool) (b j : Nat) : passR v g b j j = v j := by unfold passR; rw [if_neg (by omega)]
theorem passR_yes (v : Nat → One) (g : Nat → Bool) (b j : Nat) (h : g j = true) (hb : j ≠ b) : putP (passR v g b j) j (min ((v j).p + 1) 21) = passR v g b (j + 1) := by
  funext i
  unfold putP
  by_cases e : i = j
  · subst e; rw [if_pos rfl, passR_at]; unfold passR; rw [if_pos ⟨by omega, h, hb⟩]
  · rw [if_neg e]; unfold passR
    by_cases c : i < j ∧ g i = true ∧ i ≠ b
    · rw [if_pos c, if_pos ⟨by omega, c.2⟩]
    · rw [if_neg c, if_neg (fun q => c ⟨by omega, q.2⟩)]
theorem passR_no (v : Nat → One) (g : Nat → Bool) (b j : Nat) (h : g j = false ∨ j = b) : passR v g b j = passR v g b (j + 1) := by
  funext i
  unfold passR
  by_cases c : i < j ∧ g i = true ∧ i ≠ b
  · rw [if_pos c, if_pos ⟨by omega, c.2⟩]
  · rw [if_neg c, if_neg (fun q => c ⟨by
      have : i ≠ j := by
        rintro rfl
        rcases h with h | h
        · rw [h] at q; cases q.2.1
        · exact q.2.2 h
      omega, q.2⟩)]
theorem passR_end (v : Nat → One) (g : Nat → Bool) (k b : Nat) (hb : g b = true) (hk : b < k) : putP (passR v g b k) b 0 = picked v g k b := by
  funext i
  unfold picked putP passR passT
  by_cases e : i = b
  · subst e
    rw [if_pos rfl, if_pos rfl, if_neg (fun q => q.2.2 rfl), if_pos ⟨hk, hb⟩]
  · rw [if_neg e, if_neg e]
    by_cases c : i < k ∧ g i = true
    · rw [if_pos c, if_pos ⟨c.1, c.2, e⟩]
    · rw [if_neg c, if_neg (fun q => c ⟨q.1, q.2.1⟩)]

theorem rb_ir {Xw Xu Xp : Nat} {W W' : World} {a : Option Addr} {n : Nat} {z : Nat → Int} (h : IR W a n z) (ht : Turn (RB Xw Xu Xp) W W') (hne : ∀ x, a = some x → ¬ RB Xw Xu Xp x.block) : IR W' a n z := fun i hi => by
  obtain ⟨x, e, c0⟩ := h i hi
  refine ⟨x, e, ?_⟩
  have hb : ¬ RB Xw Xu Xp (x.add i).block := by
    have : (x.add i).block = x.block := by unfold Addr.add; split <;> rfl
    rw [this]; exact hne x e
  have := ht.block _ (cell_block_lt c0) hb
  unfold World.cell? at c0 ⊢
  rw [this]; exact c0

attribute [local irreducible] Int.lt Int.le less more quo sclean opN cmpN orderN aheadI inB
set_option maxRecDepth 100000 in
set_option maxHeartbeats 4000000 in
theorem rpick_any (R Xw Xu Xp k : Nat) (v : Nat → One) (a : Option Addr) (n c : Nat) (z : Nat → Int) (w : World) (hn : n ≤ 1000000) (h : Rf w R Xw Xu Xp k v) (ha : IR w a n z) :
    Calls Try.prog 26 #[.pointer (some ⟨R, 0, none⟩), .slice a n c] w fun e w' => e = .returned (.int .i64 (obI (bst (fun i => decide (iHas z n (i : Int))) v k))) ∧ Rf w' R Xw Xu Xp k (pickV v (fun i => decide (iHas z n (i : Int))) k) ∧ Turn (RB Xw Xu Xp) w w' := by
  have hg : ∀ i : Nat, decide (iHas z n (i : Int)) = (fun i : Nat => decide (iHas z n (i : Int))) i := fun _ => rfl
  generalize hGG : (fun i : Nat => decide (iHas z n (i : Int))) = g at *
  have Hg := Lib.hid hg
  clear hGG hg
  have hmk := fun W => run_make_row' (P := Try.prog) 68 4 (.bool false) 1 Try.underlying68 info_bool rfl .i64 .i64 k (by have := h.le; omega) (by have := h.le; omega) W
  have hr := h.r0
  have hk := h.le
  go_enter Try.func26, Try.ntmps26
  go_wp2_with fail
  have hR0 := World.rowIs_made w (.bool false) k 4
  have bel0 : Below w.heap.size w (w.alloc (.cells (madeCells #[.bool false] k) 4)) := (Below.refl _ _).alloc (Nat.le_refl _) _
  have hltR := h.lt
  generalize w.alloc (.cells (madeCells #[.bool false] k) 4) = W1 at *
  have hR : W1.rowIs w.heap.size 4 k (fun i => .bool (inB z 0 i)) := hR0.congr fun i _ => by rw [inB_zero]
  clear hR0 hmk hr
  generalize hG : w.heap.size = G at *
  have HG := Lib.hid hG
  clear hG
  go_loopw [19] (fun i wr => ∃ j : Nat, j ≤ n ∧ i = .int .i64 (j : Int) ∧ wr.rowIs G 4 k (fun i => .bool (inB z j i)) ∧ Below G w wr) (fun i _ => n - (intOf i).toNat)
  case atStart => exact ⟨0, Nat.zero_le _, rfl, hR, bel0⟩
  case round =>
    clear hR bel0
    obtain ⟨j, hj, rfl, hR, hb⟩ := hrel
    have hs : Rf wr R Xw Xu Xp k v := h.below (by rw [HG.out]; exact hb)
    have hi := ha.below (by rw [HG.out]; exact hb)
    by_cases hlt : j < n
    · have l1 : (j : Int) < (n : Int) := by omega
      have l0 : (0 : Int) ≤ (j : Int) := by omega
      obtain ⟨x, rfl, x0⟩ := hi j hlt
      by_cases hz : 0 ≤ z j ∧ z j < (k : Int)
      · obtain ⟨i, hzi⟩ : ∃ i : Nat, z j = (i : Int) := ⟨(z j).toNat, by omega⟩
        have hik : i < k := by omega
        rw [hzi] at x0
        have Hh := Lib.hid (rhas_in R Xw Xu Xp k v i hik wr hs)
        have c0 := hR.cell hik
        have f0 := hR.frozen i
        have hR2 : (wr.setCell ⟨G, i, none⟩ (.bool true)).rowIs G 4 k (fun q => .bool (inB z (j + 1) q)) := (hR.set i (.bool true)).congr fun q _ => by
          have := inB_hit z j i hzi q
          by_cases e : q = i
          · rw [if_pos e]; rw [if_pos e] at this; rw [this]
          · rw [if_neg e]; rw [if_neg e] at this; rw [this]
        have hb2 : Below G w (wr.setCell ⟨G, i, none⟩ (.bool true)) := hb.setCell (p := ⟨G, i, none⟩) (Nat.le_refl _) (.bool true)
        have i0 : (0 : Int) ≤ (i : Int) := by omega
        have i1 : (i : Int) < (k : Int) := by omega
        have H2 := Lib.hid (And.intro hR2 hb2)
        clear hz hs hi hR hb hR2 hb2 hzi h ha
        go_wp2_with fail
        refine Hh.out.mono ?_; rintro e W2 ⟨rfl, rfl⟩
        clear Hh
        go_wp2_with fail
        exact ⟨⟨j + 1, by omega, by go_num, H2.out.1, H2.out.2⟩, by simp [intOf]; omega⟩
      · have Hh := Lib.hid (rhas_out R Xw Xu Xp k v (z j) hz wr hs)
        have hR2 : wr.rowIs G 4 k (fun q => .bool (inB z (j + 1) q)) := hR.congr fun q hq => by rw [inB_miss z j k hz q hq]
        clear hz hs hi hR h ha
        generalize z j = y at *
        go_wp2_with fail
        refine Hh.out.mono ?_; rintro e W2 ⟨rfl, rfl⟩
        clear Hh
        go_wp2_with fail
        exact ⟨⟨j + 1, by omega, by go_num, hR2, hb⟩, by simp [intOf]; omega⟩
    · obtain rfl : j = n := by omega
      have hRg : wr.rowIs G 4 k (fun i => .bool (g i)) := hR.congr fun i _ => congrArg Value.bool ((inB_all z j i).trans (Hg.out i))
      clear hR hi ha
      go_wp2_with fail
      go_loopw [5, 32] (fun b i wr => ∃ q : Nat, q ≤ k ∧ i = .int .i64 (q : Int) ∧ b = .int .i64 (obI (bst g v q)) ∧ Rf wr R Xw Xu Xp k v ∧ wr.rowIs G 4 k (fun i => .bool (g i)) ∧ Below G w wr) (fun _ i _ => k - (intOf i).toNat)
      case atStart => exact ⟨0, Nat.zero_le _, rfl, rfl, hs, hRg, hb⟩
      case round =>
        clear hs hRg hb
        obtain ⟨q, hq, rfl, rfl, hs, hR, hb⟩ := hrel
        by_cases hlt2 : q < k
        · have l1 : (q : Int) < (k : Int) := by omega
          have l0 : (0 : Int) ≤ (q : Int) := by omega
          have c0 := hR.cell hlt2
          have HS := Lib.hid (And.intro hs (And.intro hR hb))
          cases hgq : g q with
          | false =>
            have hsym : obI (bst g v (q + 1)) = obI (bst g v q) := by show obI (if g q = true then _ else _) = _; rw [if_neg (by rw [hgq]; simp)]
            rw [hgq] at c0
            generalize obI (bst g v q) = bi at *
            have Hq := Lib.hid hsym
            clear hsym hs hR hb hgq h
            go_wp2_with fail
            exact ⟨⟨q + 1, by omega, by go_num, congrArg (Value.int .i64) Hq.out.symm, HS.out.1, HS.out.2.1, HS.out.2.2⟩, by simp [intOf]; omega⟩
          | true =>
            rw [hgq] at c0
            have hsym : bst g v (q + 1) = (match bst g v q with | none => some q | some b => if aheadI (v q) (v b) < 0 then some q else some b) := by
              show (if g q = true then _ else _) = _
              rw [if_pos hgq]
              cases bst g v q <;> rfl
            cases hbj : bst g v q with
            | none =>
              rw [hbj] at hsym
              have Hq := Lib.hid (show obI (bst g v (q + 1)) = (q : Int) by rw [hsym]; rfl)
              rw [show obI none = -1 from rfl]
              clear hsym hs hR hb hgq hbj h
              go_wp2_with fail
              exact ⟨⟨q + 1, by omega, by go_num, by rw [Hq.out], HS.out.1, HS.out.2.1, HS.out.2.2⟩, by simp [intOf]; omega⟩
            | some b =>
              rw [hbj] at hsym
              simp only at hsym
              obtain ⟨hbk, _⟩ := bst_lt g v q b hbj
              have m1 : (b : Int) < (k : Int) := by omega
              have m0 : (0 : Int) ≤ (b : Int) := by omega
              have hah := rahead_any R Xw Xu Xp k v q b hlt2 (by omega) wr hs
              rw [show obI (some b) = (b : Int) from rfl]
              have hcs : (decide (aheadI (v q) (v b) < 0) = true ∧ obI (bst g v (q + 1)) = (q : Int)) ∨ (decide (aheadI (v q) (v b) < 0) = false ∧ obI (bst g v (q + 1)) = (b : Int)) := by
                rw [hsym]
                by_cases cA : aheadI (v q) (v b) < 0
                · exact .inl ⟨decide_eq_true cA, by rw [if_pos cA]; rfl⟩
                · exact .inr ⟨decide_eq_false cA, by rw [if_neg cA]; rfl⟩
              generalize decide (aheadI (v q) (v b) < 0) = D at *
              have Hah := Lib.hid hah
              clear hsym hah hs hR hb hgq hbj hbk h
              rcases hcs with ⟨rfl, e⟩ | ⟨rfl, e⟩
              all_goals
                have He := Lib.hid e
                clear e
                go_wp2_with fail
                refine Hah.out.mono ?_; rintro e1 W2 ⟨rfl, nq, rfl⟩
                clear Hah
                have hs2 := HS.out.1.below (below_drewN (Below.refl _ _) nq)
                have hR2 : (wr.drewN nq).rowIs G 4 k (fun i => .bool (g i)) := HS.out.2.1
                have hb2 := below_drewN HS.out.2.2 nq
                clear HS
                generalize wr.drewN nq = W2 at *
                go_wp2_with fail
                exact ⟨⟨q + 1, by omega, by go_num, by rw [He.out], hs2, hR2, hb2⟩, by simp [intOf]; omega⟩
        · obtain rfl : q = k := by omega
          cases hbj : bst g v q with
          | none =>
            have hp : pickV v g q = v := by unfold pickV; rw [hbj]
            have Hf := Lib.hid (And.intro (show obI (bst g v q) = -1 by rw [hbj]; rfl) hp)
            rw [show obI none = -1 from rfl]
            have hT : Turn (RB Xw Xu Xp) w wr := Turn.of_below (by rw [HG.out]; exact hb) _
            clear hp hbj h hR
            go_wp2_with fail
            go_ret
            exact ⟨by rw [Hf.out.1]; rfl, by rw [Hf.out.2]; exact hs, hT⟩
          | some b =>
            obtain ⟨hbk, hgb⟩ := bst_lt g v q b hbj
            have hp : pickV v g q = picked v g q b := by unfold pickV; rw [hbj]
            have Hf := Lib.hid (And.intro (show obI (bst g v q) = (b : Int) by rw [hbj]; rfl) hp)
            rw [show obI (some b) = (b : Int) from rfl]
            have m1 : (b : Int) < (q : Int) := by omega
            have m0 : (0 : Int) ≤ (b : Int) := by omega
            have hT : Turn (RB Xw Xu Xp) w wr := Turn.of_below (by rw [HG.out]; exact hb) _
            have hGne : G ≠ Xw ∧ G ≠ Xu ∧ G ≠ Xp := by
              have h1 := hltR Xw (.inr (.inl rfl))
              have h2 := hltR Xu (.inr (.inr (.inl rfl)))
              have h3 := hltR Xp (.inr (.inr (.inr rfl)))
              omega
            have Hend := Lib.hid (passR_end v g q b hgb hbk)
            clear hp hbj h hb hltR
            go_wp2_with fail
            go_loopw [55] (fun i wr => ∃ t : Nat, t ≤ q ∧ i = .int .i64 (t : Int) ∧ Rf wr R Xw Xu Xp q (passR v g b t) ∧ wr.rowIs G 4 q (fun i => .bool (g i)) ∧ Turn (RB Xw Xu Xp) w wr) (fun i _ => q - (intOf i).toNat)
            case atStart => exact ⟨0, Nat.zero_le _, rfl, by rw [passR_zero]; exact hs, hR, hT⟩
            case round =>
              clear hs hR hT
              obtain ⟨t, ht, rfl, hs, hR, hT⟩ := hrel
              have hr := hs.r2
              by_cases hlt3 : t < q
              · have l1 : (t : Int) < (q : Int) := by omega
                have l0 : (0 : Int) ≤ (t : Int) := by omega
                have c0 := hR.cell hlt3
                by_cases hc : g t = true ∧ t ≠ b
                · obtain ⟨hgt, htb⟩ := hc
                  rw [hgt] at c0
                  have n1 : ((t : Int) == (b : Int)) = false := beq_eq_false_iff_ne.2 (by omega)
                  have n2 : ¬ (t : Int) = (b : Int) := by omega
                  have c2 := (hs.cells t hlt3).2.2
                  rw [passR_at] at c2
                  have f2 := hs.rp.frozen t
                  have pq := hs.p t
                  rw [passR_at] at pq
                  have hs2 := hs.drew.setP t (min ((v t).p + 1) 21) (by omega)
                  rw [passR_yes v g b t hgt htb] at hs2
                  have hR2 : (wr.drew.setCell ⟨Xp, t, none⟩ (.int .i64 (min ((v t).p + 1) 21))).rowIs G 4 q (fun i => .bool (g i)) := row_blk (W := wr.drew) hR (set_blk hGne.2.2)
                  have hT2 := hT.drew.setCell (p := ⟨Xp, t, none⟩) (Or.inl (.inr (.inr rfl))) (.int .i64 (min ((v t).p + 1) 21))
                  have Hs := Lib.hid (And.intro hs2 (And.intro hR2 hT2))
                  clear hs2 hR2 hT2 hs hR hT hgt htb
                  generalize (v t).p = P at *
                  go_wp2_with fail
                  refine wp_region_still_tail 15 (by kernel_rfl) (by kernel_rfl) ?_
                  simp only [List.take_succ_cons, List.take_zero, List.drop_succ_cons, List.drop_zero]
                  repeat still_step
                  refine wpStill_nil ?_
                  change wpList _ _ _ _ _ wr.drew
                  go_wp2_with fail
                  have e : (if 21 < P + 1 then (21 : Int) else P + 1) = min (P + 1) 21 := by split <;> omega
                  rw [e]
                  exact ⟨⟨t + 1, by omega, by go_num, Hs.out.1, Hs.out.2.1, Hs.out.2.2⟩, by simp [intOf]; omega⟩
                · have hno := passR_no v g b t (by
                    by_cases e : t = b
                    · exact .inr e
                    · cases hgt : g t
                      · exact .inl rfl
                      · exact absurd ⟨hgt, e⟩ hc)
                  rw [hno] at hs
                  have HS := Lib.hid (And.intro hs (And.intro hR hT))
                  have hcc : g t = false ∨ (g t = true ∧ t = b) := by
                    cases hgt : g t
                    · exact .inl rfl
                    · exact .inr ⟨rfl, by
                        by_cases e : t = b
                        · exact e
                        · exact absurd ⟨hgt, e⟩ hc⟩
                  clear hc hno hs hR hT hr
                  rcases hcc with hgt | ⟨hgt, rfl⟩
                  all_goals
                    rw [hgt] at c0
                    clear hgt
                    go_wp2_with fail
                    exact ⟨⟨t + 1, by omega, by go_num, HS.out.1, HS.out.2.1, HS.out.2.2⟩, by simp [intOf]; omega⟩
              · obtain rfl : t = q := by omega
                have hs2 := hs.setP b 0 (by omega)
                rw [Hend.out] at hs2
                obtain ⟨c0, c1, c2⟩ := hs.cells b hbk
                have f2 := hs.rp.frozen b
                have ht2 := hT.setCell (p := ⟨Xp, b, none⟩) (Or.inl (.inr (.inr rfl))) (.int .i64 0)
                have Hs := Lib.hid (And.intro hs2 ht2)
                clear hs hs2 hT ht2 hR
                go_wp2_with fail
                go_ret
                exact ⟨by rw [Hf.out.1]; rfl, by rw [Hf.out.2]; exact Hs.out.1, Hs.out.2⟩
end Go.Proofs.Ytdpgpnjjonhdhaa.St
