/- The contracts of the document's own answer to chapter 22 (cloisterref21): Clean, has, Set, Run, Halve, ahead, Pick. No condition but those written in each statement. -/
import Derived.Test.YtdpgpnjjonhdhaaShG
import Derived.Test.YtdpgpnjjonhdhaaRefC
import Derived.Laws.OwnMore
namespace Go.Proofs.Ytdpgpnjjonhdhaa.St
open Go.RowKit Go.Proofs.Ytdpgpnjjonhdhaa.Fp Ieee
set_option linter.unusedVariables false

/-- The document's Share at block R: the weights in block Xw, what was used in Xu, how often passed over in Xp. -/
structure Rf (W : World) (R Xw Xu Xp k : Nat) (v : Nat → One) : Prop where
  r0 : W.cell? ⟨R, 0, none⟩ = some (.slice (some ⟨Xw, 0, none⟩) k k)
  r1 : W.cell? ⟨R, 1, none⟩ = some (.slice (some ⟨Xu, 0, none⟩) k k)
  r2 : W.cell? ⟨R, 2, none⟩ = some (.slice (some ⟨Xp, 0, none⟩) k k)
  rw : W.rowIs Xw 25 k (fun i => .int .u64 (v i).w)
  ru : W.rowIs Xu 25 k (fun i => .int .u64 (v i).u)
  rp : W.rowIs Xp 3 k (fun i => .int .i64 (v i).p)
  n1 : R ≠ Xw
  n2 : R ≠ Xu
  n3 : R ≠ Xp
  n4 : Xw ≠ Xu
  n5 : Xw ≠ Xp
  n6 : Xu ≠ Xp
  le : k ≤ 64
  w : ∀ j, wOk (v j).w
  u : ∀ j, uOk (v j).u
  p : ∀ j, 0 ≤ (v j).p ∧ (v j).p ≤ 21

section
variable {W W' : World} {R Xw Xu Xp k : Nat} {v : Nat → One}
theorem row_blk {b : Nat} {t : TypeId} {n : Nat} {f : Nat → Value} (h : W.rowIs b t n f) (hb : W'.heap[b]? = W.heap[b]?) : W'.rowIs b t n f := by
  obtain ⟨cur, h1, h2⟩ := h
  exact ⟨cur, hb.trans h1, h2⟩
theorem row_lt {b : Nat} {t : TypeId} {n : Nat} {f : Nat → Value} (h : W.rowIs b t n f) : b < W.heap.size := by
  obtain ⟨cur, h1, _⟩ := h
  exact (Array.getElem?_eq_some_iff.1 h1).1
theorem cell_blk {b i : Nat} {x : Value} (h : W.cell? ⟨b, i, none⟩ = some x) (hb : W'.heap[b]? = W.heap[b]?) : W'.cell? ⟨b, i, none⟩ = some x := by
  unfold World.cell? at h ⊢
  rw [show (⟨b, i, none⟩ : Addr).block = b from rfl, hb]; exact h
/-- What keeps the four blocks keeps the Share. -/
theorem Rf.keep (h : Rf W R Xw Xu Xp k v) (hb : ∀ b, b = R ∨ b = Xw ∨ b = Xu ∨ b = Xp → W'.heap[b]? = W.heap[b]?) : Rf W' R Xw Xu Xp k v :=
  ⟨cell_blk h.r0 (hb R (.inl rfl)), cell_blk h.r1 (hb R (.inl rfl)), cell_blk h.r2 (hb R (.inl rfl)), row_blk h.rw (hb Xw (.inr (.inl rfl))), row_blk h.ru (hb Xu (.inr (.inr (.inl rfl)))), row_blk h.rp (hb Xp (.inr (.inr (.inr rfl)))), h.n1, h.n2, h.n3, h.n4, h.n5, h.n6, h.le, h.w, h.u, h.p⟩
theorem Rf.lt (h : Rf W R Xw Xu Xp k v) : ∀ b, b = R ∨ b = Xw ∨ b = Xu ∨ b = Xp → b < W.heap.size := by
  rintro b (rfl | rfl | rfl | rfl)
  · exact cell_block_lt h.r0
  · exact row_lt h.rw
  · exact row_lt h.ru
  · exact row_lt h.rp
theorem Rf.below (h : Rf W R Xw Xu Xp k v) (hb : Below W.heap.size W W') : Rf W' R Xw Xu Xp k v := h.keep fun b q => hb.block b (h.lt b q)
theorem Rf.drew (h : Rf W R Xw Xu Xp k v) : Rf W.drew R Xw Xu Xp k v := h.below (below_drewN (Below.refl _ _) 1)
theorem set_blk {b i c : Nat} {x : Value} (h : c ≠ b) : (W.setCell ⟨b, i, none⟩ x).heap[c]? = W.heap[c]? := Below.heap_setCell W ⟨b, i, none⟩ x c h
theorem cell_set {b i c j : Nat} {x y : Value} (h : W.cell? ⟨c, j, none⟩ = some y) (hn : c ≠ b) : (W.setCell ⟨b, i, none⟩ x).cell? ⟨c, j, none⟩ = some y := cell_blk h (set_blk hn)
theorem Rf.setW (h : Rf W R Xw Xu Xp k v) (i x : Nat) (hx : wOk x) : Rf (W.setCell ⟨Xw, i, none⟩ (.int .u64 (x : Int))) R Xw Xu Xp k (putW v i x) := by
  refine ⟨cell_set h.r0 h.n1, cell_set h.r1 h.n1, cell_set h.r2 h.n1, (h.rw.set i (.int .u64 (x : Int))).congr fun j _ => ?_, (row_blk h.ru (set_blk (Ne.symm h.n4))).congr fun j _ => ?_, (row_blk h.rp (set_blk (Ne.symm h.n5))).congr fun j _ => ?_, h.n1, h.n2, h.n3, h.n4, h.n5, h.n6, h.le, fun j => ?_, fun j => ?_, fun j => ?_⟩
  all_goals unfold putW
  · by_cases e : j = i
    · rw [if_pos e, if_pos e]
    · rw [if_neg e, if_neg e]
  · by_cases e : j = i
    · subst e; rw [if_pos rfl]
    · rw [if_neg e]
  · by_cases e : j = i
    · subst e; rw [if_pos rfl]
    · rw [if_neg e]
  · split
    · exact hx
    · exact h.w j
  · split
    · exact h.u i
    · exact h.u j
  · split
    · exact h.p i
    · exact h.p j
theorem Rf.setU (h : Rf W R Xw Xu Xp k v) (i x : Nat) (hx : uOk x) : Rf (W.setCell ⟨Xu, i, none⟩ (.int .u64 (x : Int))) R Xw Xu Xp k (putU v i x) := by
  refine ⟨cell_set h.r0 h.n2, cell_set h.r1 h.n2, cell_set h.r2 h.n2, (row_blk h.rw (set_blk h.n4)).congr fun j _ => ?_, (h.ru.set i (.int .u64 (x : Int))).congr fun j _ => ?_, (row_blk h.rp (set_blk (Ne.symm h.n6))).congr fun j _ => ?_, h.n1, h.n2, h.n3, h.n4, h.n5, h.n6, h.le, fun j => ?_, fun j => ?_, fun j => ?_⟩
  all_goals unfold St.putU
  · by_cases e : j = i
    · subst e; rw [if_pos rfl]
    · rw [if_neg e]
  · by_cases e : j = i
    · rw [if_pos e, if_pos e]
    · rw [if_neg e, if_neg e]
  · by_cases e : j = i
    · subst e; rw [if_pos rfl]
    · rw [if_neg e]
  · split
    · exact h.w i
    · exact h.w j
  · split
    · exact hx
    · exact h.u j
  · split
    · exact h.p i
    · exact h.p j
theorem Rf.setP (h : Rf W R Xw Xu Xp k v) (i : Nat) (x : Int) (hx : 0 ≤ x ∧ x ≤ 21) : Rf (W.setCell ⟨Xp, i, none⟩ (.int .i64 x)) R Xw Xu Xp k (putP v i x) := by
  refine ⟨cell_set h.r0 h.n3, cell_set h.r1 h.n3, cell_set h.r2 h.n3, (row_blk h.rw (set_blk h.n5)).congr fun j _ => ?_, (row_blk h.ru (set_blk h.n6)).congr fun j _ => ?_, (h.rp.set i (.int .i64 x)).congr fun j _ => ?_, h.n1, h.n2, h.n3, h.n4, h.n5, h.n6, h.le, fun j => ?_, fun j => ?_, fun j => ?_⟩
  all_goals unfold putP
  · by_cases e : j = i
    · subst e; rw [if_pos rfl]
    · rw [if_neg e]
  · by_cases e : j = i
    · subst e; rw [if_pos rfl]
    · rw [if_neg e]
  · by_cases e : j = i
    · rw [if_pos e, if_pos e]
    · rw [if_neg e, if_neg e]
  · split
    · exact h.w i
    · exact h.w j
  · split
    · exact h.u i
    · exact h.u j
  · split
    · exact hx
    · exact h.p j
end

/-- The blocks that a call on the document's Share may turn. -/
def RB (Xw Xu Xp : Nat) (b : Nat) : Prop := b = Xw ∨ b = Xu ∨ b = Xp

attribute [local irreducible] Int.lt Int.le less more quo aheadI sclean opN cmpN orderN
/-- An operation of the document whose answer is no NaN draws nothing. -/
theorem rop_still (op : Int) (q : BinOp) (hq : q = .add ∧ op = 1 ∨ q = .sub ∧ op = 2 ∨ q = .mul ∧ op = 3 ∨ q = .quo ∧ op = 4) (a b : Nat) (h : nanN (arithN q a b) = false) (w : World) :
    Calls Try.prog 41 #[.int .i64 op, .int .u64 (a : Int), .int .u64 (b : Int)] w fun e w' => e = .returned (.int .u64 (arithN q a b : Nat)) ∧ w = w' := by
  have hf := frombits_call
  have hb := bits_call
  cases hs : floatBits q .f64 a b with
  | none => rw [arith_none hs] at h; exact absurd h (by decide)
  | some r =>
    have hr := floatBits_wf hs
    simp [Lit.wf] at hr
    have hrun := run_float_arith (P := Try.prog) w q 60 _ _ _ _ hs
    rw [arith_some hs]
    clear hs h
    rcases hq with ⟨rfl, rfl⟩ | ⟨rfl, rfl⟩ | ⟨rfl, rfl⟩ | ⟨rfl, rfl⟩
    all_goals
      go_enter Try.func41, Try.ntmps41
      go_wp2_with fail
      refine (rclean_all r hr _).mono ?_; rintro e w' ⟨rfl, rfl⟩
      go_wp2_with fail
      go_ret
      exact ⟨rfl, rfl⟩
theorem rmore_still {u : Nat} (h : uOk u) (w : World) : Calls Try.prog 41 #[.int .i64 1, .int .u64 (u : Int), .int .u64 4607182418800017408] w fun e w' => e = .returned (.int .u64 (more u : Nat)) ∧ w = w' := by
  have := rop_still 1 .add (by simp) u 4607182418800017408 (by have := (more_ok h).2; unfold more opN at this; simpa using this) w
  unfold more opN
  simpa using this
theorem rless_still {u : Nat} (h : uOk u) (w : World) : Calls Try.prog 41 #[.int .i64 3, .int .u64 (u : Int), .int .u64 4602678819172646912] w fun e w' => e = .returned (.int .u64 (less u : Nat)) ∧ w = w' := by
  have := rop_still 3 .mul (by simp) u 4602678819172646912 (by have := (less_ok h).2; unfold less opN at this; simpa using this) w
  unfold less opN
  simpa using this
theorem rquo_still {u x : Nat} (h : uOk u) (k : wOk x) (w : World) : Calls Try.prog 41 #[.int .i64 4, .int .u64 (u : Int), .int .u64 (x : Int)] w fun e w' => e = .returned (.int .u64 (quo u x : Nat)) ∧ w = w' := by
  have := rop_still 4 .quo (by simp) u x (by have := (quo_ok h k).2; unfold quo opN at this; simpa using this) w
  unfold quo opN
  simpa using this

set_option maxRecDepth 100000 in
theorem rsclean_any (x : Nat) (hx : x < 18446744073709551616) (w : World) :
    Calls Try.prog 27 #[.int .u64 (x : Int)] w fun e w' => e = .returned (.int .u64 (sclean x : Nat)) ∧ w = w' := by
  have hc : (cmpN x 0 ≠ 1 ∧ sclean x = 4607182418800017408) ∨ (cmpN x 0 = 1 ∧ decide (0 < orderN x 4652218415073722368) = true ∧ sclean x = 4652218415073722368) ∨
      (cmpN x 0 = 1 ∧ decide (0 < orderN x 4652218415073722368) = false ∧ decide (orderN x 4562146422526312448 < 0) = true ∧ sclean x = 4562146422526312448) ∨
      (cmpN x 0 = 1 ∧ decide (0 < orderN x 4652218415073722368) = false ∧ decide (orderN x 4562146422526312448 < 0) = false ∧ sclean x = x) := by
    rcases sclean_val hx with ⟨c, e⟩ | ⟨c, e⟩
    · obtain ⟨_, h0, h1⟩ := above_zero hx c
      have r0 := (rank_small h1).1
      have r1 := (rank_small (x := 4652218415073722368) (by omega)).1
      have r2 := (rank_small (x := 4562146422526312448) (by omega)).1
      rcases (show 4652218415073722368 < x ∨ (x ≤ 4652218415073722368 ∧ x < 4562146422526312448) ∨ (x ≤ 4652218415073722368 ∧ 4562146422526312448 ≤ x) by omega) with q | ⟨q1, q2⟩ | ⟨q1, q2⟩
      · exact .inr (.inl ⟨c, decide_eq_true ((order_pos_iff _ _).2 (by rw [r0, r1]; omega)), by rw [e]; omega⟩)
      · exact .inr (.inr (.inl ⟨c, decide_eq_false (fun q => by have := (order_pos_iff _ _).1 q; rw [r0, r1] at this; omega), decide_eq_true (by rw [order_lt (by rw [r0, r2]; omega)]; decide), by rw [e]; omega⟩))
      · exact .inr (.inr (.inr ⟨c, decide_eq_false (fun q => by have := (order_pos_iff _ _).1 q; rw [r0, r1] at this; omega), decide_eq_false (fun q => by have := (order_nonneg_iff x 4562146422526312448).2 (by rw [r0, r2]; omega); omega), by rw [e]; omega⟩))
    · exact .inl ⟨c, e⟩
  have Hm := Lib.hid (rcmp_any x 0 hx (by omega))
  have H1 := Lib.hid (rorder_any x 4652218415073722368 hx (by omega))
  have H2 := Lib.hid (rorder_any x 4562146422526312448 hx (by omega))
  generalize cmpN x 0 = c at *
  generalize orderN x 4652218415073722368 = o1 at *
  generalize orderN x 4562146422526312448 = o2 at *
  generalize hy : sclean x = y at *
  clear hy
  rcases hc with ⟨h1, rfl⟩ | ⟨rfl, h2, rfl⟩ | ⟨rfl, h2, h3, rfl⟩ | ⟨rfl, h2, h3, e⟩
  · have hn : (c == 1) = false := beq_eq_false_iff_ne.2 h1
    go_enter Try.func27, Try.ntmps27
    go_wp2_with fail
    refine (Hm.out _).mono ?_; rintro e w' ⟨rfl, rfl⟩
    go_wp2_with fail
    go_ret
    exact ⟨rfl, rfl⟩
  · go_enter Try.func27, Try.ntmps27
    go_wp2_with fail
    refine (Hm.out _).mono ?_; rintro e w' ⟨rfl, rfl⟩
    go_wp2_with fail
    refine (H1.out _).mono ?_; rintro e w' ⟨rfl, rfl⟩
    go_wp2_with fail
    go_ret
    exact ⟨rfl, rfl⟩
  · go_enter Try.func27, Try.ntmps27
    go_wp2_with fail
    refine (Hm.out _).mono ?_; rintro e w' ⟨rfl, rfl⟩
    go_wp2_with fail
    refine (H1.out _).mono ?_; rintro e w' ⟨rfl, rfl⟩
    go_wp2_with fail
    refine (H2.out _).mono ?_; rintro e w' ⟨rfl, rfl⟩
    go_wp2_with fail
    go_ret
    exact ⟨rfl, rfl⟩
  · subst e
    go_enter Try.func27, Try.ntmps27
    go_wp2_with fail
    refine (Hm.out _).mono ?_; rintro e w' ⟨rfl, rfl⟩
    go_wp2_with fail
    refine (H1.out _).mono ?_; rintro e w' ⟨rfl, rfl⟩
    go_wp2_with fail
    refine (H2.out _).mono ?_; rintro e w' ⟨rfl, rfl⟩
    go_wp2_with fail
    go_ret
    exact ⟨rfl, rfl⟩

set_option maxRecDepth 100000 in
theorem rhas_in (R Xw Xu Xp k : Nat) (v : Nat → One) (i : Nat) (hi : i < k) (w : World) (h : Rf w R Xw Xu Xp k v) :
    Calls Try.prog 40 #[.pointer (some ⟨R, 0, none⟩), .int .i64 (i : Int)] w fun e w' => e = .returned (.bool true) ∧ w = w' := by
  have hr := h.r0
  have hk := h.le
  clear h
  go_enter Try.func40, Try.ntmps40
  go_wp2_with fail
  go_ret
  exact ⟨rfl, rfl⟩
set_option maxRecDepth 100000 in
theorem rhas_out (R Xw Xu Xp k : Nat) (v : Nat → One) (i : Int) (hi : ¬ (0 ≤ i ∧ i < k)) (w : World) (h : Rf w R Xw Xu Xp k v) :
    Calls Try.prog 40 #[.pointer (some ⟨R, 0, none⟩), .int .i64 i] w fun e w' => e = .returned (.bool false) ∧ w = w' := by
  have hr := h.r0
  have hk := h.le
  clear h
  rcases (show i < 0 ∨ (0 ≤ i ∧ (k : Int) ≤ i) by omega) with l | ⟨l, l2⟩
  case' inr => have l3 : decide (i < (k : Int)) = false := decide_eq_false (by omega)
  all_goals
    clear hi
    go_enter Try.func40, Try.ntmps40
    go_wp2_with fail
    go_ret
    exact ⟨rfl, rfl⟩

theorem Rf.cells {W : World} {R Xw Xu Xp k : Nat} {v : Nat → One} (h : Rf W R Xw Xu Xp k v) (i : Nat) (hi : i < k) :
    W.cell? ⟨Xw, i, none⟩ = some (.int .u64 (v i).w) ∧ W.cell? ⟨Xu, i, none⟩ = some (.int .u64 (v i).u) ∧ W.cell? ⟨Xp, i, none⟩ = some (.int .i64 (v i).p) := ⟨h.rw.cell hi, h.ru.cell hi, h.rp.cell hi⟩
theorem rb_turn {W : World} {Xw Xu Xp b i : Nat} {x : Value} (h : RB Xw Xu Xp b) : Turn (RB Xw Xu Xp) W (W.setCell ⟨b, i, none⟩ x) := (Turn.refl _ W).setCell (p := ⟨b, i, none⟩) (Or.inl h) x

set_option maxRecDepth 100000 in
set_option maxHeartbeats 4000000 in
theorem rset_in (R Xw Xu Xp k : Nat) (v : Nat → One) (i : Nat) (hi : i < k) (x : Nat) (hx : x < 18446744073709551616) (w : World) (h : Rf w R Xw Xu Xp k v) :
    Calls Try.prog 22 #[.pointer (some ⟨R, 0, none⟩), .int .i64 (i : Int), .int .u64 (x : Int)] w fun e w' => e = .returned (.tuple #[]) ∧ Rf w' R Xw Xu Xp k (putW v i (sclean x)) ∧ Turn (RB Xw Xu Xp) w w' := by
  have ho := Lib.hid (rhas_in R Xw Xu Xp k v i hi w h)
  have hc := Lib.hid (fun W => rsclean_any x hx W)
  have hr := h.r0
  have hk := h.le
  have l0 : (0 : Int) ≤ (i : Int) := by omega
  have c0 := (h.cells i hi).1
  have f0 := h.rw.frozen i
  have Hs := Lib.hid (And.intro (h.drew.setW i (sclean x) (sclean_ok hx)) ((Turn.refl (RB Xw Xu Xp) w).drew.setCell (p := ⟨Xw, i, none⟩) (Or.inl (.inl rfl)) (.int .u64 (sclean x : Nat))))
  clear h
  go_enter Try.func22, Try.ntmps22
  go_wp2_with fail
  refine ho.out.mono ?_; rintro e w' ⟨rfl, rfl⟩
  go_wp2_with fail
  refine wp_region_still_tail 8 (by kernel_rfl) (by kernel_rfl) ?_
  simp only [List.take_succ_cons, List.take_zero, List.drop_succ_cons, List.drop_zero]
  repeat still_step
  still_call ((hc.out _).mono fun e w' ⟨p, q⟩ => ⟨p, q.symm⟩)
  repeat still_step
  refine wpStill_nil ?_
  change wpList _ _ _ _ _ w.drew
  go_wp2_with fail
  go_end0
  exact ⟨rfl, Hs.out.1, Hs.out.2⟩
set_option maxRecDepth 100000 in
theorem rset_out (R Xw Xu Xp k : Nat) (v : Nat → One) (i : Int) (hi : ¬ (0 ≤ i ∧ i < k)) (x : Nat) (w : World) (h : Rf w R Xw Xu Xp k v) :
    Calls Try.prog 22 #[.pointer (some ⟨R, 0, none⟩), .int .i64 i, .int .u64 (x : Int)] w fun e w' => e = .returned (.tuple #[]) ∧ w = w' := by
  have ho := rhas_out R Xw Xu Xp k v i hi w h
  clear h hi
  go_enter Try.func22, Try.ntmps22
  go_wp2_with fail
  refine ho.mono ?_; rintro e w' ⟨rfl, rfl⟩
  go_wp2_with fail
  go_end0
  exact ⟨rfl, rfl⟩
set_option maxRecDepth 100000 in
set_option maxHeartbeats 4000000 in
theorem rrun_in (R Xw Xu Xp k : Nat) (v : Nat → One) (i : Nat) (hi : i < k) (w : World) (h : Rf w R Xw Xu Xp k v) :
    Calls Try.prog 23 #[.pointer (some ⟨R, 0, none⟩), .int .i64 (i : Int)] w fun e w' => e = .returned (.tuple #[]) ∧ Rf w' R Xw Xu Xp k (St.putU v i (more (v i).u)) ∧ Turn (RB Xw Xu Xp) w w' := by
  have ho := Lib.hid (rhas_in R Xw Xu Xp k v i hi w h)
  have hc := Lib.hid (fun W => rmore_still (h.u i) W)
  have hr := h.r1
  have hk := h.le
  have l0 : (0 : Int) ≤ (i : Int) := by omega
  have c0 := (h.cells i hi).2.1
  have f0 := h.ru.frozen i
  have Hs := Lib.hid (And.intro (h.drew.setU i (more (v i).u) (more_ok (h.u i))) ((Turn.refl (RB Xw Xu Xp) w).drew.setCell (p := ⟨Xu, i, none⟩) (Or.inl (.inr (.inl rfl))) (.int .u64 (more (v i).u : Nat))))
  clear h
  go_enter Try.func23, Try.ntmps23
  go_wp2_with fail
  refine ho.out.mono ?_; rintro e w' ⟨rfl, rfl⟩
  go_wp2_with fail
  refine wp_region_still_tail 14 (by kernel_rfl) (by kernel_rfl) ?_
  simp only [List.take_succ_cons, List.take_zero, List.drop_succ_cons, List.drop_zero]
  repeat still_step
  still_call ((hc.out _).mono fun e w' ⟨p, q⟩ => ⟨p, q.symm⟩)
  repeat still_step
  refine wpStill_nil ?_
  change wpList _ _ _ _ _ w.drew
  go_wp2_with fail
  go_end0
  exact ⟨rfl, Hs.out.1, Hs.out.2⟩
set_option maxRecDepth 100000 in
theorem rrun_out (R Xw Xu Xp k : Nat) (v : Nat → One) (i : Int) (hi : ¬ (0 ≤ i ∧ i < k)) (w : World) (h : Rf w R Xw Xu Xp k v) :
    Calls Try.prog 23 #[.pointer (some ⟨R, 0, none⟩), .int .i64 i] w fun e w' => e = .returned (.tuple #[]) ∧ w = w' := by
  have ho := rhas_out R Xw Xu Xp k v i hi w h
  clear h hi
  go_enter Try.func23, Try.ntmps23
  go_wp2_with fail
  refine ho.mono ?_; rintro e w' ⟨rfl, rfl⟩
  go_wp2_with fail
  go_end0
  exact ⟨rfl, rfl⟩
set_option maxRecDepth 100000 in
set_option maxHeartbeats 4000000 in
theorem rhalve_any (R Xw Xu Xp k : Nat) (v : Nat → One) (w : World) (h : Rf w R Xw Xu Xp k v) :
    Calls Try.prog 25 #[.pointer (some ⟨R, 0, none⟩)] w fun e w' => e = .returned (.tuple #[]) ∧ Rf w' R Xw Xu Xp k (halved v k) ∧ Turn (RB Xw Xu Xp) w w' := by
  have hr := h.r1
  have hk := h.le
  go_enter Try.func25, Try.ntmps25
  go_wp2_with fail
  clear hr
  go_loopw [8] (fun i wr => ∃ j : Nat, j ≤ k ∧ i = .int .i64 (j : Int) ∧ Rf wr R Xw Xu Xp k (halved v j) ∧ Turn (RB Xw Xu Xp) w wr) (fun i _ => k - (intOf i).toNat)
  case atStart => exact ⟨0, Nat.zero_le _, rfl, by rw [halved_zero]; exact h, Turn.refl _ _⟩
  case round =>
    obtain ⟨j, hj, rfl, hs, ht⟩ := hrel
    by_cases hlt : j < k
    · have l1 : (j : Int) < (k : Int) := by omega
      have l0 : (0 : Int) ≤ (j : Int) := by omega
      have hr := hs.r1
      have c1 := (hs.cells j hlt).2.1
      rw [halved_at] at c1
      have hu := h.u j
      have f1 := hs.ru.frozen j
      have hop := Lib.hid (fun W => rless_still hu W)
      have hs2 := hs.drew.setU j (less (v j).u) (less_ok hu)
      rw [halved_succ] at hs2
      have ht2 := ht.drew.setCell (p := ⟨Xu, j, none⟩) (Or.inl (.inr (.inl rfl))) (.int .u64 (less (v j).u : Nat))
      have Hs := Lib.hid hs2
      have Ht := Lib.hid ht2
      clear h hs ht hs2 ht2 hu
      go_wp2_with fail
      refine wp_region_still_tail 14 (by kernel_rfl) (by kernel_rfl) ?_
      simp only [List.take_succ_cons, List.take_zero, List.drop_succ_cons, List.drop_zero]
      repeat still_step
      still_call ((hop.out _).mono fun e w' ⟨p, q⟩ => ⟨p, q.symm⟩)
      repeat still_step
      refine wpStill_nil ?_
      change wpList _ _ _ _ _ wr.drew
      go_wp2_with fail
      exact ⟨⟨j + 1, by omega, by go_num, Hs.out, Ht.out⟩, by simp [intOf]; omega⟩
    · obtain rfl : j = k := by omega
      clear h
      go_wp2_with fail
      go_end0
      exact ⟨rfl, hs, ht⟩
end Go.Proofs.Ytdpgpnjjonhdhaa.St
