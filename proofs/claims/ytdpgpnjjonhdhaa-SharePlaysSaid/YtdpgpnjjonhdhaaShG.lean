/- ShareFair, the plain law: who is in each list is picked in time. No program here; no condition but those written in each statement. -/
import Derived.Test.YtdpgpnjjonhdhaaShV
import Derived.Test.YtdpgpnjjonhdhaaMixS
namespace Go.Proofs.Ytdpgpnjjonhdhaa.St
open Go.Proofs.Ytdpgpnjjonhdhaa.Fp
set_option linter.unusedVariables false

theorem ahead_over {a b : One} (h1 : 20 < a.p) (h2 : ¬ 20 < b.p) : aheadI a b < 0 := by unfold aheadI; rw [if_pos h1, if_neg h2]; decide
theorem ahead_under {a b : One} (h1 : ¬ 20 < a.p) (h2 : 20 < b.p) : ¬ aheadI a b < 0 := by unfold aheadI; rw [if_neg h1, if_pos h2]; decide

theorem bst_some {g : Nat → Bool} (v : Nat → One) : ∀ k, (∃ i, i < k ∧ g i = true) → ∃ b, bst g v k = some b
  | 0, ⟨i, hi, _⟩ => by omega
  | k + 1, h => by
    unfold bst
    by_cases c : g k = true
    · rw [if_pos c]
      cases q : bst g v k with
      | none => exact ⟨k, rfl⟩
      | some b =>
        simp only
        split
        · exact ⟨k, rfl⟩
        · exact ⟨b, rfl⟩
    · rw [if_neg c]
      obtain ⟨i, hi, hg⟩ := h
      refine bst_some v k ⟨i, ?_, hg⟩
      have : i ≠ k := by rintro rfl; exact c hg
      omega
theorem bst_over {g : Nat → Bool} (v : Nat → One) : ∀ k, (∃ i, i < k ∧ g i = true ∧ 20 < (v i).p) → ∃ b, bst g v k = some b ∧ 20 < (v b).p
  | 0, ⟨i, hi, _⟩ => by omega
  | k + 1, h => by
    by_cases hl : ∃ i, i < k ∧ g i = true ∧ 20 < (v i).p
    · obtain ⟨b, h1, h2⟩ := bst_over v k hl
      unfold bst
      rw [h1]
      by_cases c : g k = true
      · rw [if_pos c]
        simp only
        by_cases d : aheadI (v k) (v b) < 0
        · rw [if_pos d]
          refine ⟨k, rfl, ?_⟩
          by_cases e : 20 < (v k).p
          · exact e
          · exact absurd d (ahead_under e h2)
        · rw [if_neg d]; exact ⟨b, rfl, h2⟩
      · rw [if_neg c]; exact ⟨b, rfl, h2⟩
    · obtain ⟨i, hi, hg, hp⟩ := h
      obtain rfl : i = k := by
        have : ¬ i < k := fun q => hl ⟨i, q, hg, hp⟩
        omega
      unfold bst
      rw [if_pos hg]
      cases q : bst g v i with
      | none => exact ⟨i, rfl, hp⟩
      | some b =>
        simp only
        obtain ⟨b1, b2⟩ := bst_lt g v i b q
        have hb : ¬ 20 < (v b).p := fun r => hl ⟨b, b1, b2, r⟩
        rw [if_pos (ahead_over hp hb)]
        exact ⟨i, rfl, hp⟩

/-- How many of the first k. -/
def cnt (s : Nat → Bool) : Nat → Nat
  | 0 => 0
  | k + 1 => cnt s k + (if s k = true then 1 else 0)
theorem cnt_le (s : Nat → Bool) : ∀ k, cnt s k ≤ k
  | 0 => Nat.le_refl _
  | k + 1 => by have := cnt_le s k; unfold cnt; split <;> omega
theorem cnt_none (k : Nat) : cnt (fun _ => false) k = 0 := by
  induction k with
  | zero => rfl
  | succ k ih => unfold cnt; rw [ih]; rfl
theorem cnt_put {s : Nat → Bool} {b : Nat} (hs : s b = false) : ∀ k, cnt (fun i => if i = b then true else s i) k = cnt s k + (if b < k then 1 else 0)
  | 0 => rfl
  | k + 1 => by
    unfold cnt
    rw [cnt_put hs k]
    by_cases e : k = b
    · subst e
      have n1 : ¬ k < k := by omega
      have n2 : k < k + 1 := by omega
      rw [if_pos rfl, hs, if_neg n1, if_pos n2]
      simp
    · rw [if_neg e]
      by_cases c : b < k
      · rw [if_pos c, if_pos (show b < k + 1 by omega)]; omega
      · rw [if_neg c, if_neg (show ¬ b < k + 1 by omega)]; omega

/-- What stands when me was not picked t times. -/
structure Fr (k me : Nat) (v : Nat → One) (t : Nat) : Prop where
  p : (v me).p = min (t : Int) 21
  s : ∃ s : Nat → Bool, (∀ j, s j = true → (v j).p ≤ ((t - 21 : Nat) : Int)) ∧ cnt s k = t - 21

theorem Fr.start {k me : Nat} {v : Nat → One} (h : (v me).p = 0) : Fr k me v 0 := ⟨by rw [h]; rfl, fun _ => false, ⟨fun j h => (by cases h), by rw [cnt_none]⟩⟩
theorem Fr.le {k me : Nat} {v : Nat → One} {t : Nat} (h : Fr k me v t) : t ≤ 21 + k := by
  obtain ⟨s, _, hc⟩ := h.s
  have := cnt_le s k
  omega
theorem Fr.step {k me : Nat} {v : Nat → One} {t : Nat} (h : Fr k me v t) (hk : k ≤ 6) (hme : me < k) (g : Nat → Bool) (hg : g me = true) (b : Nat) (hb : bst g v k = some b) :
    (b = me → Fr k me (pickV v g k) 0) ∧ (b ≠ me → Fr k me (pickV v g k) (t + 1)) := by
  obtain ⟨hbk, hgb⟩ := bst_lt g v k b hb
  have hV : pickV v g k = picked v g k b := by unfold pickV; rw [hb]
  have pb : (picked v g k b b).p = 0 := by unfold picked putP; rw [if_pos rfl]
  have pj : ∀ j, j ≠ b → (picked v g k b j).p = (v j).p ∨ (picked v g k b j).p = min ((v j).p + 1) 21 := by
    intro j hj
    unfold picked putP passT
    rw [if_neg hj]
    by_cases c : j < k ∧ g j = true
    · rw [if_pos c]; exact .inr rfl
    · rw [if_neg c]; exact .inl rfl
  have pm : me ≠ b → (picked v g k b me).p = min ((v me).p + 1) 21 := by
    intro hj
    unfold picked putP passT
    rw [if_neg hj, if_pos ⟨hme, hg⟩]
  rw [hV]
  generalize picked v g k b = v' at *
  refine ⟨fun e => Fr.start (by rw [← e]; exact pb), fun e => ?_⟩
  have hp := h.p
  have hpm := pm (Ne.symm e)
  refine ⟨by rw [hpm, hp]; omega, ?_⟩
  obtain ⟨s, hs, hc⟩ := h.s
  by_cases ht : t < 21
  · exact ⟨fun _ => false, ⟨fun j q => (by cases q), by rw [cnt_none]; omega⟩⟩
  · have hcl := cnt_le s k
    obtain ⟨b', h1, h2⟩ := bst_over v k ⟨me, hme, hg, by rw [hp]; omega⟩
    obtain rfl : b = b' := by rw [hb] at h1; exact Option.some.inj h1
    have hsb : s b = false := by
      cases q : s b
      · rfl
      · have := hs b q
        omega
    refine ⟨fun i => if i = b then true else s i, fun j hj => ?_, ?_⟩
    · by_cases ej : j = b
      · rw [ej, pb]; exact Int.natCast_nonneg _
      · simp only [if_neg ej] at hj
        have := hs j hj
        rcases pj j ej with q | q <;> omega
    · rw [cnt_put hsb, if_pos hbk, hc]; omega
theorem Fr.putU {k me : Nat} {v : Nat → One} {t : Nat} (h : Fr k me v t) (b x : Nat) : Fr k me (putU v b x) t := by
  have e : ∀ j, (St.putU v b x j).p = (v j).p := by
    intro j
    unfold St.putU
    by_cases c : j = b
    · subst c; rw [if_pos rfl]
    · rw [if_neg c]
  obtain ⟨s, hs, hc⟩ := h.s
  exact ⟨by rw [e]; exact h.p, s, fun j hj => by rw [e]; exact hs j hj, hc⟩
end Go.Proofs.Ytdpgpnjjonhdhaa.St
