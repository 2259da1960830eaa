/- What the laws of share lean on: cloisterbook.Same of ints where they are the same, a list that is appended to, what stands of a Share and a law's memory, and chapter 22's runs. No condition but those written in each statement. -/
import Derived.Test.YtdpgpnjjonhdhaaShN
namespace Go.Proofs.Ytdpgpnjjonhdhaa.St
open Go.RowKit Go.Proofs.Ytdpgpnjjonhdhaa.Fp
set_option linter.unusedVariables false

theorem info_int : (Try.prog.info? 3).map (fun i => (i.zero, i.size, i.bytes)) = some (some (.int .i64 0), 1, 8) := by kernel_rfl

attribute [local irreducible] Int.lt Int.le less more quo aheadI
set_option maxRecDepth 100000 in
theorem same_yes (a b : Option Addr) (n c d : Nat) (z : Nat → Int) (w : World) (hn : n ≤ 1000000) (ha : IR w a n z) (hb : IR w b n z) :
    Calls Try.prog 14 #[.slice a n c, .slice b n d] w fun e w' => e = .returned (.bool true) ∧ ∃ q, w' = w.drewN q := by
  go_enter Try.func14, Try.ntmps14
  go_wp2_with fail
  go_loopw [5] (fun i wr => ∃ j : Nat, j ≤ n ∧ i = .int .i64 (j : Int) ∧ ∃ q, wr = w.drewN q) (fun i _ => n - (intOf i).toNat)
  case atStart => exact ⟨0, Nat.zero_le _, rfl, 0, rfl⟩
  case round =>
    obtain ⟨j, hj, rfl, q, rfl⟩ := hrel
    by_cases hlt : j < n
    · have l1 : (j : Int) < (n : Int) := by omega
      have l0 : (0 : Int) ≤ (j : Int) := by omega
      obtain ⟨x, rfl, x0⟩ := ha j hlt
      obtain ⟨y, rfl, y0⟩ := hb j hlt
      clear ha hb
      go_wp2_with fail
      go_quiet (fail)
      go_wp2_with fail
      exact ⟨⟨j + 1, by omega, by go_num, q + nq, by first | rfl | exact (World.drewN_add _ _ _).symm⟩, by simp [intOf]; omega⟩
    · obtain rfl : j = n := by omega
      clear ha hb
      go_wp2_with fail
      go_ret
      exact ⟨rfl, q, rfl⟩

/-! ### A list that is a law's own -/
theorem lt_of_heap {W : World} {b : Nat} {o : Obj} (h : W.heap[b]? = some o) : b < W.heap.size := (Array.getElem?_eq_some_iff.1 h).1
/-- A list of ints in blocks from B on. -/
def OL (B : Nat) (W : World) (v : Value) (ps : List Int) : Prop := W.ownsRow B 3 1 v ps.length (ps.map (Value.int .i64))
theorem OL.nil (B : Nat) (W : World) : OL B W (.slice none 0 0) [] := World.ownsRow_nil _ _ _ _
theorem OL.keep {B : Nat} {W W' : World} {v : Value} {ps : List Int} (h : OL B W v ps) (hb : ∀ g, B ≤ g → g < W.heap.size → W'.heap[g]? = W.heap[g]?) : OL B W' v ps := by
  refine ⟨h.1, ?_⟩
  rcases h.2 with q | ⟨g, cap, cur, h1, h2, h3, h4⟩
  · exact Or.inl q
  · exact Or.inr ⟨g, cap, cur, h1, h2, (hb g h2 (lt_of_heap h3)).trans h3, h4⟩
theorem OL.below {B : Nat} {W W' : World} {v : Value} {ps : List Int} (h : OL B W v ps) (hb : Below W.heap.size W W') : OL B W' v ps := h.keep fun g _ hg => hb.block g hg
theorem OL.turn {B X : Nat} {W W' : World} {v : Value} {ps : List Int} (h : OL B W v ps) (ht : Turn (· = X) W W') (hx : X < B) : OL B W' v ps := h.keep fun g h1 h2 => ht.block g h2 (by omega)
theorem OL.ir {B : Nat} {W : World} {v : Value} {ps : List Int} (h : OL B W v ps) : ∃ a c, v = .slice a ps.length c ∧ IR W a ps.length (fun i => ps.getD i 0) ∧ ∀ x, a = some x → B ≤ x.block := by
  rcases h.2 with ⟨rfl, h0⟩ | ⟨g, cap, cur, e', h2, _⟩
  · exact ⟨none, 0, by rw [h0], fun i hi => by omega, fun x hx => by cases hx⟩
  · refine ⟨_, _, e', fun i hi => ⟨_, rfl, ?_⟩, fun x hx => by cases hx; exact h2⟩
    subst e'
    refine World.ownsRow.cells h rfl i _ ?_
    simp [List.getD, List.getElem?_eq_getElem hi]

/-- What stands of a Share in a law that has begun at w0: B: where what came behind the Share begins. -/
structure Sd (w0 W : World) (R X k B : Nat) (v : Nat → One) : Prop where
  sh : Sh W R X k v
  r0 : w0.heap.size ≤ R
  x0 : w0.heap.size ≤ X
  rb : R < B
  xb : X < B
  bw : B ≤ W.heap.size
  bel : Below w0.heap.size w0 W
theorem Sh.below2 {B : Nat} {W W' : World} {R X k : Nat} {v : Nat → One} (h : Sh W R X k v) (hb : Below B W W') (hR : R < B) (hX : X < B) : Sh W' R X k v := by
  refine ⟨(hb.cell hR).trans h.root, ?_, h.ne, h.le, h.w, h.u, h.p⟩
  obtain ⟨cur, hx, h2⟩ := h.row
  exact ⟨cur, (hb.block X hX).trans hx, h2⟩
theorem Sd.below {w0 W W' : World} {R X k B : Nat} {v : Nat → One} (h : Sd w0 W R X k B v) (hb : Below B W W') : Sd w0 W' R X k B v :=
  ⟨h.sh.below2 hb h.rb h.xb, h.r0, h.x0, h.rb, h.xb, Nat.le_trans h.bw hb.size, h.bel.trans (hb.mono (by have := h.x0; have := h.xb; omega))⟩
theorem Sd.step {w0 W W' : World} {R X k B : Nat} {v v' : Nat → One} (h : Sd w0 W R X k B v) (hs : Sh W' R X k v') (ht : Turn (· = X) W W') : Sd w0 W' R X k B v' :=
  ⟨hs, h.r0, h.x0, h.rb, h.xb, Nat.le_trans h.bw ht.size, h.bel.trans (ht.below h.bel.size (fun i hi => by rw [hi]; exact h.x0))⟩
theorem Sd.alloc {w0 W : World} {R X k B : Nat} {v : Nat → One} (h : Sd w0 W R X k B v) (o : Obj) : Sd w0 (W.alloc o) R X k B v := h.below ((Below.refl _ _).alloc h.bw o)
theorem Sd.drewN {w0 W : World} {R X k B : Nat} {v : Nat → One} (h : Sd w0 W R X k B v) (n : Nat) : Sd w0 (W.drewN n) R X k B v := h.below (below_drewN (Below.refl _ _) n)
theorem Sd.of_new {w0 W W' : World} {R X k : Nat} (hb0 : Below w0.heap.size w0 W) (hR : W.heap.size ≤ R) (hX : W.heap.size ≤ X) (hs : Sh W' R X k one0) (hb : Below W.heap.size W W') : Sd w0 W' R X k W'.heap.size one0 :=
  ⟨hs, Nat.le_trans hb0.size hR, Nat.le_trans hb0.size hX, hs.lt.1, hs.lt.2, Nat.le_refl _, hb0.trans (hb.mono hb0.size)⟩
theorem Sd.congr {w0 W : World} {R X k B : Nat} {v v' : Nat → One} (h : Sd w0 W R X k B v) (he : ∀ i, i < k → v i = v' i) (h1 : ∀ j, wOk (v' j).w) (h2 : ∀ j, uOk (v' j).u) (h3 : ∀ j, 0 ≤ (v' j).p ∧ (v' j).p ≤ 21) : Sd w0 W R X k B v' := by
  refine ⟨⟨h.sh.root, h.sh.row.congr fun j hj => ?_, h.sh.ne, h.sh.le, h1, h2, h3⟩, h.r0, h.x0, h.rb, h.xb, h.bw, h.bel⟩
  unfold scell
  rw [he (j / 3) (by omega)]

/-- An append to a list that is a law's own. -/
theorem ol_push {B : Nat} {wr w1 : World} {v v' : Value} {o : Obj} {ps : List Int} {p : Int} (hB : B ≤ wr.heap.size) (hown : OL B wr v ps)
    (hown' : w1.ownsRow B 3 1 v' (ps.length + 1) (ps.map (Value.int .i64) ++ [.int .i64 p])) (hgrow : (wr.alloc o).grownBy w1 v.ownBlock) :
    OL B w1 v' (ps ++ [p]) ∧ Below B wr w1 :=
  ⟨by simpa [OL] using hown', ((Below.refl B wr).alloc hB o).grown hgrow (by simp; omega) (fun j hj => by have := (World.ownsRow.lt hown j hj).1; omega)⟩

theorem bst_congr {g g' : Nat → Bool} (v : Nat → One) : ∀ k, (∀ i, i < k → g i = g' i) → bst g v k = bst g' v k
  | 0, _ => rfl
  | k + 1, h => by unfold bst; rw [h k (by omega), bst_congr v k (fun i hi => h i (by omega))]
theorem pickV_congr {g g' : Nat → Bool} (v : Nat → One) (k : Nat) (h : ∀ i, i < k → g i = g' i) : pickV v g k = pickV v g' k := by
  unfold pickV
  rw [bst_congr v k h]
  have e : passT v g k = passT v g' k := by
    funext i
    unfold passT
    by_cases c : i < k
    · rw [h i c]
    · rw [if_neg (fun q => c q.1), if_neg (fun q => c q.1)]
  cases bst g' v k
  · rfl
  · unfold picked; rw [e]

/-! ### Chapter 22's runs -/
def tW (i : Nat) : Nat := if i = 0 then 4607182418800017408 else 4611686018427387904
def tU (j i : Nat) : Nat := if i = 0 then [0, 4607182418800017408, 4607182418800017408, 4607182418800017408, 4611686018427387904, 4611686018427387904, 4611686018427387904].getD j 0 else [0, 0, 4607182418800017408, 4611686018427387904, 4611686018427387904, 4613937818241073152, 4616189618054758400].getD j 0
def tP (j i : Nat) : Int := if i = 0 then [0, 0, 1, 2, 0, 1, 2].getD j 0 else [0, 1, 0, 0, 1, 0, 0].getD j 0
def tv (j : Nat) : Nat → One := fun i => ⟨tW i, tU j i, tP j i⟩
def pk (j : Nat) : Nat := [0, 1, 1, 0, 1, 1].getD j 0
theorem tv_pick : ∀ j, j < 6 → bst (fun _ => true) (tv j) 2 = some (pk j) := by decide +kernel
theorem tv_fields : ∀ j, j < 6 → ∀ i, i < 2 → (putU (pickV (tv j) (fun _ => true) 2) (pk j) (more ((pickV (tv j) (fun _ => true) 2) (pk j)).u) i).w = tW i ∧ (putU (pickV (tv j) (fun _ => true) 2) (pk j) (more ((pickV (tv j) (fun _ => true) 2) (pk j)).u) i).u = tU (j + 1) i ∧ (putU (pickV (tv j) (fun _ => true) 2) (pk j) (more ((pickV (tv j) (fun _ => true) 2) (pk j)).u) i).p = tP (j + 1) i := by decide +kernel
theorem tv_step (j : Nat) (h : j < 6) (i : Nat) (hi : i < 2) : putU (pickV (tv j) (fun _ => true) 2) (pk j) (more ((pickV (tv j) (fun _ => true) 2) (pk j)).u) i = tv (j + 1) i := by
  obtain ⟨h1, h2, h3⟩ := tv_fields j h i hi
  generalize putU (pickV (tv j) (fun _ => true) 2) (pk j) (more ((pickV (tv j) (fun _ => true) 2) (pk j)).u) i = x at *
  cases x
  simp only at h1 h2 h3
  rw [h1, h2, h3]; rfl
theorem tv_start : ∀ i, i < 2 → (putW one0 1 (sclean (ofN 2)) i).w = tW i ∧ (putW one0 1 (sclean (ofN 2)) i).u = tU 0 i ∧ (putW one0 1 (sclean (ofN 2)) i).p = tP 0 i := by decide +kernel
theorem tv_zero (i : Nat) (hi : i < 2) : putW one0 1 (sclean (ofN 2)) i = tv 0 i := by
  obtain ⟨h1, h2, h3⟩ := tv_start i hi
  generalize putW one0 1 (sclean (ofN 2)) i = x at *
  cases x
  simp only at h1 h2 h3
  rw [h1, h2, h3]; rfl
theorem tv_w (j i : Nat) : wOk (tv j i).w := by
  show wOk (tW i)
  unfold tW
  split <;> exact ⟨by omega, by omega⟩
theorem tv_uB : ∀ j, j < 7 → ∀ i, i < 2 → tU j i < 18446744073709551616 ∧ nanN (tU j i) = false := by decide +kernel
theorem tv_u (j : Nat) (hj : j < 7) (i : Nat) : uOk (tv j i).u := by
  by_cases h : i = 0
  · subst h; exact tv_uB j hj 0 (by omega)
  · have : (tv j i).u = tU j 1 := by show tU j i = _; unfold tU; rw [if_neg h]; rfl
    rw [this]; exact tv_uB j hj 1 (by omega)
theorem tv_pB : ∀ j, j < 7 → ∀ i, i < 2 → 0 ≤ tP j i ∧ tP j i ≤ 21 := by decide +kernel
theorem tv_p (j : Nat) (hj : j < 7) (i : Nat) : 0 ≤ (tv j i).p ∧ (tv j i).p ≤ 21 := by
  by_cases h : i = 0
  · subst h; exact tv_pB j hj 0 (by omega)
  · have : (tv j i).p = tP j 1 := by show tP j i = _; unfold tP; rw [if_neg h]; rfl
    rw [this]; exact tv_pB j hj 1 (by omega)
theorem pk_lt : ∀ j, j < 6 → pk j < 2 := by decide
def gotL (j : Nat) : List Int := [0, 1, 1, 0, 1, 1].take j
theorem gotL_succ : ∀ j, j < 6 → gotL j ++ [(pk j : Int)] = gotL (j + 1) := by decide
theorem run_final : (tv 6 1).u = ofN 4 ∧ sclean 9221120237041090560 = 4607182418800017408 := by decide +kernel
theorem gotL_len (j : Nat) : (gotL j).length ≤ 6 := by unfold gotL; simp; omega

/-- A pick of both, and the run of who was picked, of the runs. -/
theorem pick_two (w0 W : World) (R X B : Nat) (j : Nat) (hj : j < 6) (a : Option Addr) (c : Nat) (z : Nat → Int) (h : Sd w0 W R X 2 B (tv j)) (ha : IR W a 2 z) (hz : ∀ i : Nat, i < 2 → z i = i) (hne : ∀ x, a = some x → x.block ≠ X) :
    Calls Try.prog 12 #[.pointer (some ⟨R, 0, none⟩), .slice a 2 c] W fun e W' => e = .returned (.int .i64 (pk j : Nat)) ∧ Sd w0 W' R X 2 B (pickV (tv j) (fun _ => true) 2) ∧ Turn (· = X) W W' := by
  have hg : ∀ i, i < 2 → (fun i : Nat => decide (iHas z 2 (i : Int))) i = (fun _ => true) i := fun i hi => decide_eq_true ⟨i, hi, hz i hi⟩
  refine (pick_any R X 2 (tv j) a 2 c z W (by omega) h.sh ha hne).mono ?_
  rintro e W' ⟨rfl, hs, ht⟩
  rw [bst_congr (tv j) 2 hg, tv_pick j hj]
  rw [pickV_congr (tv j) 2 hg] at hs
  exact ⟨rfl, h.step hs ht, ht⟩
theorem run_two (w0 W : World) (R X B : Nat) (j : Nat) (hj : j < 6) (h : Sd w0 W R X 2 B (pickV (tv j) (fun _ => true) 2)) :
    Calls Try.prog 13 #[.pointer (some ⟨R, 0, none⟩), .int .i64 (pk j : Nat)] W fun e W' => e = .returned (.tuple #[]) ∧ Sd w0 W' R X 2 B (tv (j + 1)) ∧ Turn (· = X) W W' := by
  refine (run_in R X 2 _ (pk j) (pk_lt j hj) W h.sh).mono ?_
  rintro e W' ⟨rfl, hs, ht⟩
  exact ⟨rfl, (h.step hs ht).congr (fun i hi => tv_step j hj i hi) (tv_w _) (tv_u _ (by omega)) (tv_p _ (by omega)), ht⟩

attribute [local irreducible] tv pk gotL
set_option maxRecDepth 100000 in
set_option maxHeartbeats 4000000 in
theorem runs_any (w : World) : Calls Try.prog 3 #[] w fun e w' => e = .returned (.bool true) ∧ Below w.heap.size w w' := by
  obtain ⟨i0, hi, hz0, hz1, hz2⟩ := info_parts info_int
  go_enter Try.func3, Try.ntmps3
  go_wp2_with fail
  refine (new_any 2 (by omega) w).mono ?_; rintro e W1 ⟨R, X, rfl, hR, hX, hs, hb⟩
  have S1 := Sd.of_new (Below.refl _ _) hR hX hs hb
  clear hR hX hs hb
  go_wp2_with fail
  refine (of_any 2 W1).mono ?_; rintro e W2 ⟨rfl, rfl⟩
  go_wp2_with fail
  refine (set_in R X 2 one0 1 (by omega) (ofN 2) (ofN_lt 2) W1 S1.sh).mono ?_; rintro e W2 ⟨rfl, hs, ht⟩
  have S2 := (S1.step hs ht).congr (fun i hi => tv_zero i hi) (tv_w _) (tv_u _ (by omega)) (tv_p _ (by omega))
  clear S1 hs ht
  generalize W1.heap.size = B at *
  go_wp2_with fail
  go_loopw [2, 3] (fun v i wr => ∃ j : Nat, j ≤ 6 ∧ i = .int .i64 (j : Int) ∧ Sd w wr R X 2 B (tv j) ∧ OL B wr v (gotL j)) (fun _ i _ => 6 - (intOf i).toNat)
  case atStart => exact ⟨0, by omega, rfl, S2, by unfold gotL; exact OL.nil B W2⟩
  case round =>
    clear S2
    obtain ⟨j, hj, rfl, S, hO⟩ := hrel
    by_cases hlt : j < 6
    · have l1 : (j : Int) < 6 := by omega
      have l0 : (0 : Int) ≤ (j : Int) := by omega
      go_wp2_with fail
      have a0 := alloc_cell wr #[.int .i64 0, .int .i64 1] 3 0 _ rfl
      have a1 := alloc_cell wr #[.int .i64 0, .int .i64 1] 3 1 _ rfl
      have S3 := S.alloc (.cells #[.int .i64 0, .int .i64 1] 3)
      have O3 := hO.below ((Below.refl _ _).alloc (Nat.le_refl _) (.cells #[.int .i64 0, .int .i64 1] 3))
      have hbl := S.bw
      have hxb := S.xb
      clear S hO
      generalize wr.alloc (.cells #[.int .i64 0, .int .i64 1] 3) = W3 at *
      generalize wr.heap.size = G at *
      refine (pick_two w W3 R X B j hlt (some ⟨G, 0, none⟩) 2 (fun i => (i : Int)) S3 (fun i hi2 => ⟨_, rfl, by
        rcases (show i = 0 ∨ i = 1 by omega) with rfl | rfl
        · exact a0
        · exact a1⟩) (fun _ _ => rfl) (fun x hx => by cases hx; show G ≠ X; omega)).mono ?_; rintro e W4 ⟨rfl, S4, t4⟩
      have O4 := O3.turn t4 hxb
      clear S3 O3 t4 a0 a1
      go_wp2_with fail
      refine (run_two w W4 R X B j hlt S4).mono ?_; rintro e W5 ⟨rfl, S5, t5⟩
      have O5 := O4.turn t5 hxb
      have bw5 := S5.bw
      have hgl := gotL_len j
      have hsucc := Lib.hid (gotL_succ j hlt)
      clear S4 O4 t5
      generalize pk j = p at *
      go_wp2_with (first
        | (at_builtin; refine wpList_append_own _ rfl _ _ 27 rfl B 3 i0 (.int .i64 0) 1 8 Try.underlying27 hi hz0 hz1 hz2 rfl (by decide) _ _ _ rfl (World.ownsRow.alloc O5 _) ⟨W5.heap.size, 0, none⟩ 1 1 [.int .i64 (p : Int)] rfl rfl ?c1 ?c2 ?c3 ?c4 ?c5 ?_)
        | fail)
      case c1 =>
        intro j u hj
        match j, hj with
        | 0, hj => simp at hj; subst hj; simp [Addr.add]
      case c2 => intro u hu; simp at hu; subst hu; rfl
      case c3 => unfold maxLen; omega
      case c4 => omega
      case c5 => simp; omega
      intro v' W6 hown' hgrow _
      have RR := ol_push bw5 O5 hown' hgrow
      rw [hsucc.out] at RR
      have S6 := S5.below RR.2
      have O6 := RR.1
      clear hown' hgrow O5 S5 RR hsucc
      go_wp2_with fail
      exact ⟨⟨j + 1, by omega, by go_num, S6, O6⟩, by simp [intOf]; omega⟩
    · obtain rfl : j = 6 := by omega
      obtain ⟨a, c, rfl, hir, _⟩ := hO.ir
      have e6 : gotL 6 = [0, 1, 1, 0, 1, 1] := by unfold gotL; rfl
      rw [e6] at hir
      rw [e6]
      clear hO
      simp only [List.length_cons, List.length_nil] at hir ⊢
      go_wp2_with fail
      have b0 := alloc_cell wr #[.int .i64 0, .int .i64 1, .int .i64 1, .int .i64 0, .int .i64 1, .int .i64 1] 3
      have S3 := S.alloc (.cells #[.int .i64 0, .int .i64 1, .int .i64 1, .int .i64 0, .int .i64 1, .int .i64 1] 3)
      have hir3 := hir.below ((Below.refl _ _).alloc (Nat.le_refl _) (.cells #[.int .i64 0, .int .i64 1, .int .i64 1, .int .i64 0, .int .i64 1, .int .i64 1] 3))
      have hir4 : IR (wr.alloc (.cells #[.int .i64 0, .int .i64 1, .int .i64 1, .int .i64 0, .int .i64 1, .int .i64 1] 3)) (some ⟨wr.heap.size, 0, none⟩) 6 (fun i => [0, 1, 1, 0, 1, 1].getD i 0) := fun i hi2 => ⟨_, rfl, by
        rcases (show i = 0 ∨ i = 1 ∨ i = 2 ∨ i = 3 ∨ i = 4 ∨ i = 5 by omega) with rfl | rfl | rfl | rfl | rfl | rfl
        · exact b0 0 _ rfl
        · exact b0 1 _ rfl
        · exact b0 2 _ rfl
        · exact b0 3 _ rfl
        · exact b0 4 _ rfl
        · exact b0 5 _ rfl⟩
      clear S hir b0
      generalize wr.alloc (.cells #[.int .i64 0, .int .i64 1, .int .i64 1, .int .i64 0, .int .i64 1, .int .i64 1] 3) = W3 at *
      generalize wr.heap.size = G at *
      refine (same_yes _ _ 6 _ _ _ W3 (by omega) hir3 hir4).mono ?_; rintro e W4 ⟨rfl, q, rfl⟩
      have S4 := S3.drewN q
      clear S3 hir3 hir4
      generalize W3.drewN q = W4 at *
      go_wp2_with fail
      have hu := used_in R X 2 (tv 6) 1 (by omega) W4 S4.sh
      rw [run_final.1] at hu
      refine hu.mono ?_; rintro e W5 ⟨rfl, rfl⟩
      have hcl := sclean_any 9221120237041090560 (by omega) W4
      rw [run_final.2] at hcl
      clear hu
      go_wp2_with fail
      refine (of_any 4 W4).mono ?_; rintro e W5 ⟨rfl, rfl⟩
      generalize ofN 4 = o4 at *
      go_wp2_with fail
      refine hcl.mono ?_; rintro e W5 ⟨rfl, rfl⟩
      go_wp2_with fail
      go_ret
      exact ⟨rfl, S4.bel⟩
theorem shareRuns_walk (w : World) : Calls Try.prog 3 #[] w fun e w' => e = .returned (.bool true) ∧ Below w.heap.size w w' := runs_any w
end Go.Proofs.Ytdpgpnjjonhdhaa.St
