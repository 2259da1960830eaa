/- The contracts of the document's own answer to chapter 22 (cloisterref21): ahead, Pick. No condition but those written in each statement. -/
import Derived.Test.YtdpgpnjjonhdhaaShK
namespace Go.Proofs.Ytdpgpnjjonhdhaa.St
open Go.RowKit Go.Proofs.Ytdpgpnjjonhdhaa.Fp Ieee
set_option linter.unusedVariables false

attribute [local irreducible] Int.lt Int.le less more quo sclean opN cmpN orderN
set_option maxRecDepth 100000 in
set_option maxHeartbeats 4000000 in
theorem rahead_any (R Xw Xu Xp k : Nat) (v : Nat → One) (i j : Nat) (hi : i < k) (hj : j < k) (w : World) (h : Rf w R Xw Xu Xp k v) :
    Calls Try.prog 42 #[.pointer (some ⟨R, 0, none⟩), .int .i64 (i : Int), .int .i64 (j : Int)] w fun e w' => e = .returned (.bool (decide (aheadI (v i) (v j) < 0))) ∧ ∃ q, w' = w.drewN q := by
  have q1 := quo_ok (h.u i) (h.w i)
  have q2 := quo_ok (h.u j) (h.w j)
  have o3 := Lib.hid (fun W => rorder_any (quo (v i).u (v i).w) (quo (v j).u (v j).w) q1.1 q2.1 W)
  obtain ⟨a0, a1, a2⟩ := h.cells i hi
  obtain ⟨b0, b1, b2⟩ := h.cells j hj
  have r0 := h.r0
  have r1 := h.r1
  have r2 := h.r2
  have hk := h.le
  have l1 : (i : Int) < (k : Int) := by omega
  have l0 : (0 : Int) ≤ (i : Int) := by omega
  have m1 : (j : Int) < (k : Int) := by omega
  have m0 : (0 : Int) ≤ (j : Int) := by omega
  have hui := h.u i
  have hwi := h.w i
  have huj := h.u j
  have hwj := h.w j
  clear h q1 q2
  have hc : ((decide (20 < (v i).p) = true ∧ decide (20 < (v j).p) = true ∧ aheadI (v i) (v j) = orderN (quo (v i).u (v i).w) (quo (v j).u (v j).w)) ∨ (decide (20 < (v i).p) = false ∧ decide (20 < (v j).p) = false ∧ aheadI (v i) (v j) = orderN (quo (v i).u (v i).w) (quo (v j).u (v j).w))) ∨ (decide (20 < (v i).p) = true ∧ decide (20 < (v j).p) = false ∧ aheadI (v i) (v j) = -1) ∨ (decide (20 < (v i).p) = false ∧ decide (20 < (v j).p) = true ∧ aheadI (v i) (v j) = 1) := by
    unfold aheadI
    by_cases c1 : 20 < (v i).p <;> by_cases c2 : 20 < (v j).p <;> simp [c1, c2]
  generalize orderN (quo (v i).u (v i).w) (quo (v j).u (v j).w) = oo at *
  generalize aheadI (v i) (v j) = A at *
  generalize (v i).p = pi at *
  generalize (v j).p = pj at *
  generalize (v i).u = ui at *
  generalize (v j).u = uj at *
  generalize (v i).w = wi at *
  generalize (v j).w = wj at *
  rcases hc with hc | hc
  · rcases hc with ⟨p1, p2, rfl⟩ | ⟨p1, p2, rfl⟩
    all_goals
      go_enter Try.func42, Try.ntmps42
      go_wp2_with fail
      go_quiet (fail)
      go_wp2_with fail
      go_quiet (first
        | (go_at_call 41; exact quiet_left (rquo_still (by assumption) (by assumption) _))
        | (go_at_call 41; exact quiet_add (rquo_still (by assumption) (by assumption) _))
        | fail)
      go_wp2_with fail
      refine (o3.out _).mono ?_; rintro e w' ⟨rfl, rfl⟩
      go_wp2_with fail
      go_ret
      exact ⟨rfl, by first | exact ⟨_, rfl⟩ | exact ⟨_, World.drewN_drewN _ _ _⟩⟩
  · rcases hc with ⟨p1, p2, rfl⟩ | ⟨p1, p2, rfl⟩
    all_goals
      go_enter Try.func42, Try.ntmps42
      go_wp2_with fail
      go_quiet (fail)
      go_wp2_with fail
      go_ret
      exact ⟨by simp, _, rfl⟩
end Go.Proofs.Ytdpgpnjjonhdhaa.St
