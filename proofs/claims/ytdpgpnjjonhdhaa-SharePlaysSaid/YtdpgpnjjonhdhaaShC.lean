/- The contract of the package share's Pick. No condition but those written in the statement. -/
import Derived.Test.YtdpgpnjjonhdhaaShB
namespace Go.Proofs.Ytdpgpnjjonhdhaa.St
open Go.RowKit Go.Proofs.Ytdpgpnjjonhdhaa.Fp
set_option linter.unusedVariables false

/-- Who goes ahead of all others among the first, by a list's test g. -/
def bst (g : Nat → Bool) (v : Nat → One) : Nat → Option Nat
  | 0 => none
  | j + 1 => if g j then (match bst g v j with | none => some j | some b => if aheadI (v j) (v b) < 0 then some j else some b) else bst g v j
def obI : Option Nat → Int
  | none => -1
  | some b => b
theorem bst_lt (g : Nat → Bool) (v : Nat → One) : ∀ (j b : Nat), bst g v j = some b → b < j ∧ g b = true
  | 0, b, h => by cases h
  | j + 1, b, h => by
    have ih := bst_lt g v j
    unfold bst at h
    by_cases c : g j = true
    · rw [if_pos c] at h
      cases q : bst g v j with
      | none => rw [q] at h; simp at h; subst h; exact ⟨by omega, c⟩
      | some x =>
        rw [q] at h
        simp only at h
        split at h
        · simp at h; subst h; exact ⟨by omega, c⟩
        · simp at h; subst h; have := ih x q; exact ⟨by omega, this.2⟩
    · rw [if_neg c] at h
      have := ih b h
      exact ⟨by omega, this.2⟩

/-- The first j of the list have been passed over once more. -/
def passT (v : Nat → One) (g : Nat → Bool) (j : Nat) : Nat → One := fun i => if i < j ∧ g i = true then { v i with p := min ((v i).p + 1) 21 } else v i
theorem passT_zero (v : Nat → One) (g : Nat → Bool) : passT v g 0 = v := by
  funext i; unfold passT; rw [if_neg (by omega)]
theorem passT_at (v : Nat → One) (g : Nat → Bool) (j : Nat) : passT v g j j = v j := by unfold passT; rw [if_neg (by omega)]
theorem passT_yes (v : Nat → One) (g : Nat → Bool) (j : Nat) (h : g j = true) : putP (passT v g j) j (min ((v j).p + 1) 21) = passT v g (j + 1) := by
  funext i
  unfold putP
  by_cases e : i = j
  · subst e; rw [if_pos rfl, passT_at]; unfold passT; rw [if_pos ⟨by omega, h⟩]
  · rw [if_neg e]; unfold passT
    by_cases c : i < j ∧ g i = true
    · rw [if_pos c, if_pos ⟨by omega, c.2⟩]
    · rw [if_neg c, if_neg (fun q => c ⟨by omega, q.2⟩)]
theorem passT_no (v : Nat → One) (g : Nat → Bool) (j : Nat) (h : g j = false) : passT v g j = passT v g (j + 1) := by
  funext i
  unfold passT
  by_cases c : i < j ∧ g i = true
  · rw [if_pos c, if_pos ⟨by omega, c.2⟩]
  · rw [if_neg c, if_neg (fun q => c ⟨by
      have : i ≠ j := by rintro rfl; rw [h] at q; cases q.2
      omega, q.2⟩)]
/-- What Pick leaves. -/
def picked (v : Nat → One) (g : Nat → Bool) (k b : Nat) : Nat → One := putP (passT v g k) b 0
/-- .. where there may be none. -/
def pickV (v : Nat → One) (g : Nat → Bool) (k : Nat) : Nat → One := match bst g v k with | none => v | some b => picked v g k b

theorem IR.turn {X : Nat} {W W' : World} {a : Option Addr} {n : Nat} {z : Nat → Int} (h : IR W a n z) (ht : Turn (· = X) W W') (hne : ∀ x, a = some x → x.block ≠ X) : IR W' a n z := fun i hi => by
  obtain ⟨x, e, c0⟩ := h i hi
  refine ⟨x, e, ?_⟩
  have hb : (x.add i).block ≠ X := by
    have : (x.add i).block = x.block := by unfold Addr.add; split <;> rfl
    rw [this]; exact hne x e
  have := ht.block _ (cell_block_lt c0) hb
  unfold World.cell? at c0 ⊢
  rw [this]; exact c0

theorem alloc_cell (w : World) (cs : Array Value) (t : TypeId) (i : Nat) (v : Value) (h : cs[i]? = some v) : (w.alloc (.cells cs t)).cell? ⟨w.heap.size, i, none⟩ = some v := by
  have e : (w.alloc (.cells cs t)).heap[w.heap.size]? = some (.cells cs t (0, 0)) := heap_alloc_new w _
  unfold World.cell?
  simp only [e]
  exact h

/-- What stands while the best one is looked for. -/
def Pk (w : World) (R X k : Nat) (v : Nat → One) (a : Option Addr) (n : Nat) (z : Nat → Int) (B : Nat) (o p : One) (b : Nat) (W : World) : Prop :=
  W.cell? ⟨R, 0, none⟩ = some (.slice (some ⟨X, 0, none⟩) k k) ∧ W.cell? ⟨X, b * 3, none⟩ = some (.int .u64 p.w) ∧ W.cell? ⟨X, b * 3 + 1, none⟩ = some (.int .u64 p.u) ∧ W.cell? ⟨X, b * 3 + 2, none⟩ = some (.int .i64 p.p) ∧
  W.cell? ⟨B, 0, none⟩ = some (.int .u64 o.w) ∧ W.cell? ⟨B, 1, none⟩ = some (.int .u64 o.u) ∧ W.cell? ⟨B, 2, none⟩ = some (.int .i64 o.p) ∧ Sh W R X k v ∧ IR W a n z ∧ Below w.heap.size w W
theorem pk_below {w : World} {R X k : Nat} {v : Nat → One} {a : Option Addr} {n : Nat} {z : Nat → Int} {B : Nat} {o p : One} {b : Nat} {W W' : World} (h : Pk w R X k v a n z B o p b W) (hb : Below W.heap.size W W') : Pk w R X k v a n z B o p b W' := by
  obtain ⟨h1, h2, h3, h4, h5, h6, h7, h8, h9, h10⟩ := h
  exact ⟨(hb.cell (cell_block_lt h1)).trans h1, (hb.cell (cell_block_lt h2)).trans h2, (hb.cell (cell_block_lt h3)).trans h3, (hb.cell (cell_block_lt h4)).trans h4, (hb.cell (cell_block_lt h5)).trans h5, (hb.cell (cell_block_lt h6)).trans h6, (hb.cell (cell_block_lt h7)).trans h7, h8.below hb, h9.below hb, h10.trans (hb.mono h10.size)⟩

theorem pk_ir {w : World} {R X k : Nat} {v : Nat → One} {a : Option Addr} {n : Nat} {z : Nat → Int} {B : Nat} {o p : One} {b : Nat} {W : World} (h : Pk w R X k v a n z B o p b W) : IR W a n z := h.2.2.2.2.2.2.2.2.1

attribute [local irreducible] Int.lt Int.le less more quo aheadI
attribute [local go_sem ↓] Go.wp_at_zero Go.wp_at_succ
set_option maxRecDepth 100000 in
set_option maxHeartbeats 4000000 in
theorem pick_any (R X k : Nat) (v : Nat → One) (a : Option Addr) (n c : Nat) (z : Nat → Int) (w : World) (hn : n ≤ 1000000) (h : Sh w R X k v) (ha : IR w a n z) (hne : ∀ x, a = some x → x.block ≠ X) :
    Calls Try.prog 12 #[.pointer (some ⟨R, 0, none⟩), .slice a n c] w fun e w' => e = .returned (.int .i64 (obI (bst (fun i => decide (iHas z n (i : Int))) v k))) ∧ Sh w' R X k (pickV v (fun i => decide (iHas z n (i : Int))) k) ∧ Turn (· = X) w w' := by
  have hg : ∀ i : Nat, decide (iHas z n (i : Int)) = (fun i : Nat => decide (iHas z n (i : Int))) i := fun _ => rfl
  generalize hG : (fun i : Nat => decide (iHas z n (i : Int))) = g at *
  have Hg := Lib.hid hg
  clear hG hg
  have hr := h.root
  have hk := h.le
  go_enter Try.func12, Try.ntmps12
  go_wp2_with fail
  clear hr
  go_loopw [5, 15] (fun b i wr => ∃ j : Nat, j ≤ k ∧ i = .int .i64 (j : Int) ∧ b = .int .i64 (obI (bst g v j)) ∧ Below w.heap.size w wr) (fun _ i _ => k - (intOf i).toNat)
  case atStart => exact ⟨0, Nat.zero_le _, rfl, rfl, Below.refl _ _⟩
  case round =>
    obtain ⟨j, hj, rfl, rfl, hb⟩ := hrel
    by_cases hlt : j < k
    · have l1 : (j : Int) < (k : Int) := by omega
      have l0 : (0 : Int) ≤ (j : Int) := by omega
      have hs := h.below hb
      have hi := ha.below hb
      have hr := hs.root
      obtain ⟨c0, c1, c2⟩ := hs.cells j hlt
      have hgw := Hg.out j
      have hcq : ∀ W, IR W a n z → Calls Try.prog 33 #[.slice a n c, .int .i64 (j : Int)] W fun e w' => e = .returned (.bool (g j)) ∧ W = w' := fun W hW => by rw [← hgw]; exact icontains_any a n c z j W hn hW
      have huj := h.u j
      have hwj := h.w j
      generalize hvo : v j = o at *
      have Ho := Lib.hid hvo
      clear hvo
      clear hgw
      go_upto_region 5 with fail
      have g0 := alloc_cell wr #[Value.int .u64 o.w, Value.int .u64 o.u, Value.int .i64 o.p] 54 0 _ rfl
      have g1 := alloc_cell wr #[Value.int .u64 o.w, Value.int .u64 o.u, Value.int .i64 o.p] 54 1 _ rfl
      have g2 := alloc_cell wr #[Value.int .u64 o.w, Value.int .u64 o.u, Value.int .i64 o.p] 54 2 _ rfl
      have bel0 : Below w.heap.size w (wr.alloc (Obj.cells #[Value.int .u64 o.w, Value.int .u64 o.u, Value.int .i64 o.p] 54)) := hb.alloc hb.size _
      have hs0 := h.below bel0
      have hi0 := ha.below bel0
      have hr0 := hs0.root
      clear hs hi hr c0 c1 c2 hb
      generalize wr.alloc (Obj.cells #[Value.int .u64 o.w, Value.int .u64 o.u, Value.int .i64 o.p] 54) = W0 at *
      generalize wr.heap.size = B at *
      cases hgj : g j with
      | false =>
        have hq : obI (bst g v (j + 1)) = obI (bst g v j) := by show obI (if g j = true then _ else _) = _; rw [if_neg (by rw [hgj]; simp)]
        rw [hgj] at hcq
        have Hc := Lib.hid (fun q : Nat => hcq (W0.drewN q) (hi0.below (below_drewN (Below.refl _ _) q)))
        have Hq := Lib.hid hq
        have bel1 := fun q => below_drewN bel0 q
        clear hcq hq hgj hs0 hi0 bel0
        generalize obI (bst g v j) = bi at *
        go_quiet (first | (go_at_call 33; exact quiet_left (Hc.out _)) | fail)
        have bel2 := bel1 nq
        clear bel1
        generalize W0.drewN nq = W1 at *
        go_wp2_with fail
        exact ⟨⟨j + 1, by omega, by go_num, by rw [Hq.out], bel2⟩, by simp [intOf]; omega⟩
      | true =>
        have hsym : bst g v (j + 1) = (match bst g v j with | none => some j | some b => if aheadI o (v b) < 0 then some j else some b) := by rw [← Ho.out]; show (if g j = true then _ else _) = _; rw [if_pos hgj]
        rw [hgj] at hcq
        cases hbj : bst g v j with
        | none =>
          rw [hbj] at hsym
          have hq : obI (bst g v (j + 1)) = (j : Int) := by rw [hsym]; rfl
          have Hc := Lib.hid (fun q : Nat => hcq (W0.drewN q) (hi0.below (below_drewN (Below.refl _ _) q)))
          have Hq := Lib.hid hq
          have bel1 := fun q => below_drewN bel0 q
          rw [show obI none = -1 from rfl]
          clear hcq hq hsym hgj hs0 hi0 bel0 hbj
          go_quiet (first | (go_at_call 33; exact quiet_left (Hc.out _)) | fail)
          have bel2 := bel1 nq
          clear bel1
          generalize W0.drewN nq = W1 at *
          go_wp2_with fail
          exact ⟨⟨j + 1, by omega, by go_num, by rw [Hq.out], bel2⟩, by simp [intOf]; omega⟩
        | some b =>
          rw [hbj] at hsym
          simp only at hsym
          obtain ⟨hbk, _⟩ := bst_lt g v j b hbj
          have hbk2 : b < k := by omega
          have m1 : (b : Int) < (k : Int) := by omega
          have m0 : (0 : Int) ≤ (b : Int) := by omega
          obtain ⟨d0, d1, d2⟩ := hs0.cells b hbk2
          have hS : Pk w R X k v a n z B o (v b) b W0 := ⟨hr0, d0, d1, d2, g0, g1, g2, hs0, hi0, bel0⟩
          have hSd : Pk w R X k v a n z B o (v b) b W0.drew := pk_below hS (below_drewN (Below.refl _ _) 1)
          have hah := ahead_any o (v b) huj hwj (h.u b) (h.w b)
          rw [show obI (some b) = (b : Int) from rfl]
          generalize aheadI o (v b) = A at *
          generalize v b = p at *
          have hcs : (A < 0 ∧ obI (bst g v (j + 1)) = (j : Int)) ∨ (¬ A < 0 ∧ obI (bst g v (j + 1)) = (b : Int)) := by
            rw [hsym]
            by_cases cA : A < 0
            · exact .inl ⟨cA, by rw [if_pos cA]; rfl⟩
            · exact .inr ⟨cA, by rw [if_neg cA]; rfl⟩
          have Hah := Lib.hid hah
          have Hc := Lib.hid hcq
          clear hcq hgj hs0 hi0 bel0 hbj hah hsym huj hwj hr0 d0 d1 d2 g0 g1 g2 hbk hS
          go_region_held3 (fun W => W.cell? ⟨R, 0, none⟩ = some (.slice (some ⟨X, 0, none⟩) k k) ∧ W.cell? ⟨X, b * 3, none⟩ = some (.int .u64 p.w) ∧ W.cell? ⟨X, b * 3 + 1, none⟩ = some (.int .u64 p.u) ∧ W.cell? ⟨X, b * 3 + 2, none⟩ = some (.int .i64 p.p) ∧
  W.cell? ⟨B, 0, none⟩ = some (.int .u64 o.w) ∧ W.cell? ⟨B, 1, none⟩ = some (.int .u64 o.u) ∧ W.cell? ⟨B, 2, none⟩ = some (.int .i64 o.p) ∧ Sh W R X k v ∧ IR W a n z ∧ Below w.heap.size w W)
            (assumption)
            (first
            | (go_at_call 33; refine (Hc.out _ (pk_ir (by assumption))).mono ?_; rintro e W1 ⟨rfl, rfl⟩)
            | (go_at_call 34; refine (Hah.out _).mono ?_; rintro e W2 ⟨rfl, t2⟩; have hS2 := pk_below (by assumption) t2))
          all_goals
            have bF := hS2.2.2.2.2.2.2.2.2.2
            clear hS2 hSd t2
            rcases hcs with ⟨cA, e⟩ | ⟨cA, e⟩
            all_goals
              have He := Lib.hid e
              clear e
              go_wp2_with fail
              exact ⟨⟨j + 1, by omega, by go_num, by rw [He.out], bF⟩, by simp [intOf]; omega⟩
    · obtain rfl : j = k := by omega
      have hs := h.below hb
      have hi := ha.below hb
      have hr := hs.root
      cases hbj : bst g v j with
      | none =>
        have hp : pickV v g j = v := by unfold pickV; rw [hbj]
        have hp2 : obI (bst g v j) = -1 := by rw [hbj]; rfl
        rw [show obI none = -1 from rfl]
        have Hf := Lib.hid (And.intro hp2 hp)
        clear hp hp2 hbj h ha hr
        go_wp2_with fail
        go_ret
        exact ⟨by rw [Hf.out.1]; rfl, by rw [Hf.out.2]; exact hs, Turn.of_below hb _⟩
      | some b =>
        obtain ⟨hbk, _⟩ := bst_lt g v j b hbj
        have hp : pickV v g j = picked v g j b := by unfold pickV; rw [hbj]
        have hp2 : obI (bst g v j) = (b : Int) := by rw [hbj]; rfl
        have Hf := Lib.hid (And.intro hp2 hp)
        rw [show obI (some b) = (b : Int) from rfl]
        have m1 : (b : Int) < (j : Int) := by omega
        have m0 : (0 : Int) ≤ (b : Int) := by omega
        have ht := Turn.of_below hb (· = X)
        clear hp hp2 hbj h ha hb
        go_wp2_with fail
        clear hr
        go_loopw [48] (fun i wr => ∃ q : Nat, q ≤ j ∧ i = .int .i64 (q : Int) ∧ Sh wr R X j (passT v g q) ∧ IR wr a n z ∧ Turn (· = X) w wr) (fun i _ => j - (intOf i).toNat)
        case atStart => exact ⟨0, Nat.zero_le _, rfl, by rw [passT_zero]; exact hs, hi, ht⟩
        case round =>
          clear hs hi ht
          obtain ⟨q, hq, rfl, hs, hi, ht⟩ := hrel
          have hr := hs.root
          by_cases hlt : q < j
          · have l1 : (q : Int) < (j : Int) := by omega
            have l0 : (0 : Int) ≤ (q : Int) := by omega
            obtain ⟨c0, c1, c2⟩ := hs.cells q hlt
            rw [passT_at] at c2
            have f2 := hs.row.frozen (q * 3 + 2)
            have pq := (hs.p q)
            rw [passT_at] at pq
            have hcq := icontains_any a n c z q _ hn hi
            rw [Hg.out q] at hcq
            cases hgq : g q with
            | false =>
              rw [hgq] at hcq
              have Hc := Lib.hid hcq
              have hs2 := hs
              rw [passT_no v g q hgq] at hs2
              clear hcq hgq c0 c1 c2 hs
              go_wp2_with fail
              refine Hc.out.mono ?_; rintro e W1 ⟨rfl, rfl⟩
              go_wp2_with fail
              exact ⟨⟨q + 1, by omega, by go_num, hs2, hi, ht⟩, by simp [intOf]; omega⟩
            | true =>
              rw [hgq] at hcq
              have Hc := Lib.hid hcq
              have hs2 := hs.setP q (min ((v q).p + 1) 21) (by omega)
              rw [passT_yes v g q hgq] at hs2
              have t1 := (Turn.refl (· = X) wr).setCell (p := ⟨X, q * 3 + 2, none⟩) (Or.inl rfl) (.int .i64 (min ((v q).p + 1) 21))
              have hi2 := hi.turn t1 hne
              have ht2 := ht.trans t1
              clear hcq hgq c0 c1 hs hi ht t1
              generalize (v q).p = P at *
              have Hs := Lib.hid (And.intro hs2 (And.intro hi2 ht2))
              clear hs2 hi2 ht2
              go_wp2_with fail
              refine Hc.out.mono ?_; rintro e W1 ⟨rfl, rfl⟩
              go_wp2_with fail
              have e : (if 21 < P + 1 then (21 : Int) else P + 1) = min (P + 1) 21 := by split <;> omega
              rw [e]
              exact ⟨⟨q + 1, by omega, by go_num, Hs.out.1, Hs.out.2.1, Hs.out.2.2⟩, by simp [intOf]; omega⟩
          · obtain rfl : q = j := by omega
            have hs2 := hs.setP b 0 (by omega)
            obtain ⟨c0, c1, c2⟩ := hs.cells b hbk
            have f2 := hs.row.frozen (b * 3 + 2)
            have ht2 := ht.setCell (p := ⟨X, b * 3 + 2, none⟩) (Or.inl rfl) (.int .i64 0)
            have Hs := Lib.hid (And.intro hs2 ht2)
            clear hs hs2 ht ht2 hi
            go_wp2_with fail
            go_ret
            exact ⟨by rw [Hf.out.1]; rfl, by rw [Hf.out.2]; exact Hs.out.1, Hs.out.2⟩
end Go.Proofs.Ytdpgpnjjonhdhaa.St
