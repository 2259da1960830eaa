/- The contracts of the package share's Halve, ahead and Pick. No condition but those written in each statement. -/
import Derived.Test.YtdpgpnjjonhdhaaShA
namespace Go.Proofs.Ytdpgpnjjonhdhaa.St
open Go.RowKit Go.Proofs.Ytdpgpnjjonhdhaa.Fp
set_option linter.unusedVariables false

theorem Sh.drew {W : World} {R X k : Nat} {v : Nat → One} (h : Sh W R X k v) : Sh W.drew R X k v := h.drewN 1

def halved (v : Nat → One) (j : Nat) : Nat → One := fun i => if i < j then { v i with u := less (v i).u } else v i
theorem halved_zero (v : Nat → One) : halved v 0 = v := rfl
theorem halved_succ (v : Nat → One) (j : Nat) : putU (halved v j) j (less (v j).u) = halved v (j + 1) := by
  funext i
  unfold putU halved
  by_cases h : i = j
  · subst h; simp
  · rw [if_neg h]
    by_cases h2 : i < j
    · rw [if_pos h2, if_pos (by omega)]
    · rw [if_neg h2, if_neg (by omega)]
theorem halved_at (v : Nat → One) (j : Nat) : halved v j j = v j := by unfold halved; rw [if_neg (by omega)]

attribute [local irreducible] Int.lt Int.le less more
set_option maxRecDepth 100000 in
set_option maxHeartbeats 4000000 in
theorem halve_any (R X k : Nat) (v : Nat → One) (w : World) (h : Sh w R X k v) :
    Calls Try.prog 24 #[.pointer (some ⟨R, 0, none⟩)] w fun e w' => e = .returned (.tuple #[]) ∧ Sh w' R X k (halved v k) ∧ Turn (· = X) w w' := by
  have hr := h.root
  have hk := h.le
  go_enter Try.func24, Try.ntmps24
  go_wp2_with fail
  clear hr
  go_loopw [8] (fun i wr => ∃ j : Nat, j ≤ k ∧ i = .int .i64 (j : Int) ∧ Sh wr R X k (halved v j) ∧ Turn (· = X) w wr) (fun i _ => k - (intOf i).toNat)
  case atStart => exact ⟨0, Nat.zero_le _, rfl, by rw [halved_zero]; exact h, Turn.refl _ _⟩
  case round =>
    obtain ⟨j, hj, rfl, hs, ht⟩ := hrel
    by_cases hlt : j < k
    · have l1 : (j : Int) < (k : Int) := by omega
      have l0 : (0 : Int) ≤ (j : Int) := by omega
      have hr := hs.root
      have c1 := (hs.cells j hlt).2.1
      rw [halved_at] at c1
      have hu := h.u j
      have f1 := hs.row.frozen (j * 3 + 1)
      have hop := Lib.hid (less_still hu)
      have hs2 := hs.drew.setU j (less (v j).u) (less_ok hu)
      rw [halved_succ] at hs2
      have ht2 := ht.drew.setCell (p := ⟨X, j * 3 + 1, none⟩) (Or.inl rfl) (.int .u64 (less (v j).u : Nat))
      have Hs := Lib.hid hs2
      have Ht := Lib.hid ht2
      clear h hs ht hs2 ht2 hu
      go_wp2_with fail
      refine wp_region_still_tail 16 (by kernel_rfl) (by kernel_rfl) ?_
      simp only [List.take_succ_cons, List.take_zero, List.drop_succ_cons, List.drop_zero]
      repeat still_step
      still_call ((hop.out _).mono fun e w' ⟨p, q⟩ => ⟨p, q.symm⟩)
      repeat still_step
      refine wpStill_nil ?_
      change wpList _ _ _ _ _ wr.drew
      go_wp2_with fail
      exact ⟨⟨j + 1, by omega, by go_num, Hs.out, Ht.out⟩, by simp [intOf]; omega⟩
    · obtain rfl : j = k := by omega
      clear h
      go_wp2_with fail
      go_end0
      exact ⟨rfl, hs, ht⟩

/-- Below 0, if one goes ahead of another. -/
def aheadI (a b : One) : Int := if 20 < a.p then (if 20 < b.p then orderN (quo a.u a.w) (quo b.u b.w) else -1) else (if 20 < b.p then 1 else orderN (quo a.u a.w) (quo b.u b.w))
attribute [local irreducible] quo

set_option maxRecDepth 100000 in
set_option maxHeartbeats 4000000 in
theorem ahead_any (a b : One) (ha : uOk a.u) (ka : wOk a.w) (hb : uOk b.u) (kb : wOk b.w) (w : World) :
    Calls Try.prog 34 #[.agg #[.int .u64 a.w, .int .u64 a.u, .int .i64 a.p], .agg #[.int .u64 b.w, .int .u64 b.u, .int .i64 b.p]] w fun e w' => e = .returned (.int .i64 (aheadI a b)) ∧ Below w.heap.size w w' := by
  obtain ⟨aw, au, ap⟩ := a
  obtain ⟨bw, bu, bp⟩ := b
  simp only at ha ka hb kb ⊢
  have q1 := quo_ok ha ka
  have q2 := quo_ok hb kb
  have o1 := Lib.hid (quo_still ha ka)
  have o2 := Lib.hid (quo_still hb kb)
  have o3 := Lib.hid (order_any (quo au aw) (quo bu bw) q1.1 q2.1)
  clear q1 q2
  have hc : ((decide (20 < ap) = true ∧ decide (20 < bp) = true ∧ aheadI ⟨aw, au, ap⟩ ⟨bw, bu, bp⟩ = orderN (quo au aw) (quo bu bw)) ∨ (decide (20 < ap) = false ∧ decide (20 < bp) = false ∧ aheadI ⟨aw, au, ap⟩ ⟨bw, bu, bp⟩ = orderN (quo au aw) (quo bu bw))) ∨ (decide (20 < ap) = true ∧ decide (20 < bp) = false ∧ aheadI ⟨aw, au, ap⟩ ⟨bw, bu, bp⟩ = -1) ∨ (decide (20 < ap) = false ∧ decide (20 < bp) = true ∧ aheadI ⟨aw, au, ap⟩ ⟨bw, bu, bp⟩ = 1) := by
    unfold aheadI
    simp only
    by_cases c1 : 20 < ap <;> by_cases c2 : 20 < bp <;> simp [c1, c2]
  have B0 := (Below.refl w.heap.size w)
  have B1 := B0.alloc (Nat.le_refl _) (Obj.cells #[.int .u64 aw, .int .u64 au, .int .i64 ap] 54)
  have B2 := B1.alloc B1.size (Obj.cells #[.int .u64 bw, .int .u64 bu, .int .i64 bp] 54)
  have B3 := fun n => below_drewN B2 n
  have Hb := Lib.hid B3
  clear B0 B1 B2 B3
  rcases hc with hc | hc
  · rcases hc with ⟨p1, p2, e⟩ | ⟨p1, p2, e⟩
    all_goals
      rw [e]
      clear e
      go_enter Try.func34, Try.ntmps34
      go_wp2_with fail
      go_quiet (fail)
      go_wp2_with fail
      go_quiet (first
        | (go_at_call 18; exact quiet_left (quo_still (by assumption) (by assumption) _))
        | (go_at_call 18; exact quiet_add (quo_still (by assumption) (by assumption) _))
        | (go_at_call 20; exact quiet_left (o3.out _))
        | (go_at_call 20; exact quiet_add (o3.out _))
        | fail)
      go_wp2_with fail
      go_ret
      exact ⟨rfl, by first | exact Hb.out _ | exact below_drewN (Hb.out _) _⟩
  · rcases hc with ⟨p1, p2, e⟩ | ⟨p1, p2, e⟩
    all_goals
      rw [e]
      clear e
      go_enter Try.func34, Try.ntmps34
      go_wp2_with fail
      go_quiet (fail)
      go_wp2_with fail
      go_ret
      exact ⟨rfl, Hb.out _⟩
end Go.Proofs.Ytdpgpnjjonhdhaa.St
