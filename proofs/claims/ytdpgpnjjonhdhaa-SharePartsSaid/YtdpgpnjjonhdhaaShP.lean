/- ShareParts, the plain law: with weights one, two, four, nobody is passed over too often, and none has used, by its weight, more than one beyond another. No program here; no condition but those written in each statement. -/
import Derived.Test.YtdpgpnjjonhdhaaShV
namespace Go.Proofs.Ytdpgpnjjonhdhaa.St
open Go.Proofs.Ytdpgpnjjonhdhaa.Fp
set_option linter.unusedVariables false

def two (e : Nat) : Nat := if e = 0 then 1 else if e = 1 then 2 else 4
def inc (e : Nat) : Nat := if e = 0 then 4 else if e = 1 then 2 else 1
theorem inc_pos (e : Nat) : 1 ≤ inc e ∧ inc e ≤ 4 := by unfold inc; split <;> (try split) <;> omega
/-- The word of t quarters. -/
def qW (t : Nat) : Nat := quo (ofN (t : Int)) (ofN 4)
theorem qW_quo : ∀ m : Nat, m < 61 → ∀ e : Nat, e < 3 → quo (ofN (m : Int)) (ofN (two e : Nat)) = qW (m * inc e) := by decide +kernel
theorem qW_rise1 : ∀ t, t < 244 → qW t < qW (t + 1) := by decide +kernel
theorem qW_fin : ∀ t, t < 245 → qW t ≤ 9218868437227405312 := by decide +kernel
theorem qW_more : ∀ t, t < 241 → more (qW t) = qW (t + 4) := by decide +kernel
theorem two_clean : ∀ e, e < 3 → sclean (ofN (two e : Nat)) = ofN (two e : Nat) := by decide +kernel
theorem qW_rise {a b : Nat} (h : a < b) (hb : b ≤ 244) : qW a < qW b := by
  induction b with
  | zero => omega
  | succ b ih =>
    have h1 := qW_rise1 b (by omega)
    by_cases c : a = b
    · subst c; exact h1
    · exact Nat.lt_trans (ih (by omega) (by omega)) h1
theorem qW_order {a b : Nat} (ha : a ≤ 244) (hb : b ≤ 244) : (orderN (qW a) (qW b) < 0 ↔ a < b) ∧ (a ≤ b → orderN (qW a) (qW b) ≤ 0) := by
  have ra := (rank_small (qW_fin a (by omega))).1
  have rb := (rank_small (qW_fin b (by omega))).1
  rcases (show a < b ∨ a = b ∨ b < a by omega) with h | h | h
  · have := qW_rise h hb
    rw [order_lt (by rw [ra, rb]; omega)]
    exact ⟨⟨fun _ => h, fun _ => by decide⟩, fun _ => by decide⟩
  · subst h
    rw [order_refl]
    exact ⟨⟨fun q => absurd q (by decide), fun q => by omega⟩, fun _ => by decide⟩
  · have := qW_rise h ha
    rw [order_gt (by rw [ra, rb]; omega)]
    exact ⟨⟨fun q => absurd q (by decide), fun q => by omega⟩, fun q => by omega⟩

/-- What stands after s picks: e: the weights, m: how often each was picked, c i j: how often j was since i was. -/
structure PV (k : Nat) (v : Nat → One) (e m : Nat → Nat) (c : Nat → Nat → Nat) (s : Nat) : Prop where
  e2 : ∀ i, e i < 3
  w : ∀ i, i < k → (v i).w = ofN (two (e i) : Nat)
  u : ∀ i, i < k → (v i).u = ofN (m i : Nat)
  mm : ∀ i, i < k → m i ≤ s
  a : ∀ i j, i < k → j < k → m j * inc (e j) ≤ m i * inc (e i) + inc (e j)
  p : ∀ i, i < k → (v i).p ≤ ((c i 0 + c i 1 + c i 2 + c i 3 : Nat) : Int)
  d : ∀ i, c i i = 0
  z : ∀ i j, k ≤ j → c i j = 0
  b : ∀ i j, i < k → j < k → m i * inc (e i) + inc (e j) * c i j ≤ m j * inc (e j) + inc (e i)

theorem PV.c5 {k : Nat} {v : Nat → One} {e m : Nat → Nat} {c : Nat → Nat → Nat} {s : Nat} (h : PV k v e m c s) (i j : Nat) (hi : i < k) : c i j ≤ 5 := by
  by_cases hj : j < k
  · have h1 := h.a i j hi hj
    have h2 := h.b i j hi hj
    have h3 := inc_pos (e i)
    have h4 := inc_pos (e j)
    have h5 : inc (e j) * c i j ≤ inc (e j) + inc (e i) := by omega
    rcases Nat.lt_or_ge 5 (c i j) with q | q
    · exfalso
      have : inc (e j) * 6 ≤ inc (e j) * c i j := Nat.mul_le_mul_left _ q
      omega
    · exact q
  · rw [h.z i j (by omega)]; omega
theorem PV.p15 {k : Nat} {v : Nat → One} {e m : Nat → Nat} {c : Nat → Nat → Nat} {s : Nat} (h : PV k v e m c s) (hk : k ≤ 4) (i : Nat) (hi : i < k) : (v i).p ≤ 15 := by
  have h0 := h.p i hi
  have h1 := h.c5 i 0 hi
  have h2 := h.c5 i 1 hi
  have h3 := h.c5 i 2 hi
  have h4 := h.c5 i 3 hi
  have hd := h.d i
  rcases (show i = 0 ∨ i = 1 ∨ i = 2 ∨ i = 3 by omega) with rfl | rfl | rfl | rfl <;> omega
theorem PV.key {k : Nat} {v : Nat → One} {e m : Nat → Nat} {c : Nat → Nat → Nat} {s : Nat} (h : PV k v e m c s) (hs : s ≤ 60) (i : Nat) (hi : i < k) : quo (v i).u (v i).w = qW (m i * inc (e i)) ∧ m i * inc (e i) ≤ 240 := by
  have hm := h.mm i hi
  have := inc_pos (e i)
  have h1 : m i * inc (e i) ≤ 60 * 4 := Nat.mul_le_mul (by omega) (by omega)
  rw [h.u i hi, h.w i hi]
  exact ⟨qW_quo (m i) (by omega) (e i) (h.e2 i), by omega⟩
theorem PV.ahead {k : Nat} {v : Nat → One} {e m : Nat → Nat} {c : Nat → Nat → Nat} {s : Nat} (h : PV k v e m c s) (hk : k ≤ 4) (hs : s ≤ 60) (i j : Nat) (hi : i < k) (hj : j < k) : aheadI (v i) (v j) < 0 ↔ m i * inc (e i) < m j * inc (e j) := by
  have p1 := h.p15 hk i hi
  have p2 := h.p15 hk j hj
  unfold aheadI
  rw [if_neg (by omega), if_neg (by omega)]
  obtain ⟨k1, b1⟩ := h.key hs i hi
  obtain ⟨k2, b2⟩ := h.key hs j hj
  rw [k1, k2]
  exact (qW_order (by omega) (by omega)).1

theorem bst_min {v : Nat → One} {κ : Nat → Nat} {n : Nat} (h : ∀ i j, i < n → j < n → (aheadI (v i) (v j) < 0 ↔ κ i < κ j)) : ∀ k, k ≤ n → 0 < k → ∃ b, bst (fun _ => true) v k = some b ∧ b < k ∧ ∀ j, j < k → κ b ≤ κ j
  | 0, _, h0 => by omega
  | k + 1, hk, _ => by
    unfold bst
    rw [if_pos rfl]
    by_cases hz : k = 0
    · subst hz
      exact ⟨0, rfl, by omega, fun j hj => by have : j = 0 := by omega
                                              subst this; omega⟩
    · obtain ⟨b, h1, h2, h3⟩ := bst_min h k (by omega) (by omega)
      rw [h1]
      simp only
      by_cases c : aheadI (v k) (v b) < 0
      · rw [if_pos c]
        have c2 := (h k b (by omega) (by omega)).1 c
        refine ⟨k, rfl, by omega, fun j hj => ?_⟩
        by_cases e : j = k
        · subst e; omega
        · have := h3 j (by omega); omega
      · rw [if_neg c]
        have c2 : ¬ κ k < κ b := fun q => c ((h k b (by omega) (by omega)).2 q)
        refine ⟨b, rfl, by omega, fun j hj => ?_⟩
        by_cases e : j = k
        · subst e; omega
        · exact h3 j (by omega)

theorem pv_start {k : Nat} {v : Nat → One} {e : Nat → Nat} (he : ∀ i, e i < 3) (hw : ∀ i, i < k → (v i).w = ofN (two (e i) : Nat)) (hu : ∀ i, i < k → (v i).u = 0) (hp : ∀ i, i < k → (v i).p = 0) : PV k v e (fun _ => 0) (fun _ _ => 0) 0 :=
  ⟨he, hw, fun i hi => by rw [hu i hi]; decide +kernel, fun i hi => by omega, fun i j _ _ => by simp, fun i hi => by rw [hp i hi]; simp, fun _ => rfl, fun _ _ _ => rfl, fun i j _ _ => by simp⟩

/-- A pick of all, and the run of who was picked. -/
theorem pv_step {k : Nat} {v : Nat → One} {e m : Nat → Nat} {c : Nat → Nat → Nat} {s : Nat} (h : PV k v e m c s) (hk : k ≤ 4) (hk0 : 0 < k) (hs : s < 60) :
    ∃ b, bst (fun _ => true) v k = some b ∧ b < k ∧ ∃ m' c', PV k (putU (pickV v (fun _ => true) k) b (more ((pickV v (fun _ => true) k) b).u)) e m' c' (s + 1) := by
  obtain ⟨b, h1, h2, h3⟩ := bst_min (κ := fun i => m i * inc (e i)) (n := k) (fun i j hi hj => h.ahead hk (by omega) i j hi hj) k (Nat.le_refl _) hk0
  refine ⟨b, h1, h2, fun i => if i = b then m b + 1 else m i, fun i j => if i = b then 0 else if j = b then c i b + 1 else c i j, ?_⟩
  have hV : pickV v (fun _ => true) k = picked v (fun _ => true) k b := by unfold pickV; rw [h1]
  rw [hV]
  have pw : ∀ i, i < k → (picked v (fun _ => true) k b i).w = (v i).w ∧ (picked v (fun _ => true) k b i).u = (v i).u ∧ (i = b → (picked v (fun _ => true) k b i).p = 0) ∧ (i ≠ b → (picked v (fun _ => true) k b i).p ≤ (v i).p + 1) := by
    intro i hi
    unfold picked putP passT
    by_cases q : i = b
    · subst q
      rw [if_pos rfl, if_pos ⟨hi, rfl⟩]
      exact ⟨rfl, rfl, fun _ => rfl, fun q => absurd rfl q⟩
    · rw [if_neg q, if_pos ⟨hi, rfl⟩]
      refine ⟨rfl, rfl, fun r => absurd r q, fun _ => ?_⟩
      show min ((v i).p + 1) 21 ≤ _
      omega
  have uw : ∀ i, i < k → (putU (picked v (fun _ => true) k b) b (more ((picked v (fun _ => true) k b) b).u) i).w = (v i).w ∧ (putU (picked v (fun _ => true) k b) b (more ((picked v (fun _ => true) k b) b).u) i).p = (picked v (fun _ => true) k b i).p ∧ (putU (picked v (fun _ => true) k b) b (more ((picked v (fun _ => true) k b) b).u) i).u = (if i = b then more (v b).u else (v i).u) := by
    intro i hi
    unfold putU
    by_cases q : i = b
    · subst q
      rw [if_pos rfl, if_pos rfl]
      exact ⟨(pw i hi).1, rfl, congrArg more (pw i hi).2.1⟩
    · rw [if_neg q, if_neg q]
      exact ⟨(pw i hi).1, rfl, (pw i hi).2.1⟩
  generalize putU (picked v (fun _ => true) k b) b (more ((picked v (fun _ => true) k b) b).u) = v' at *
  generalize picked v (fun _ => true) k b = v1 at *
  have hib := inc_pos (e b)
  have hmb := h.mm b h2
  have emb : (m b + 1) * inc (e b) = m b * inc (e b) + inc (e b) := by rw [Nat.add_mul, Nat.one_mul]
  refine ⟨h.e2, fun i hi => by rw [(uw i hi).1]; exact h.w i hi, fun i hi => ?_, fun i hi => ?_, fun i j hi hj => ?_, fun i hi => ?_, fun i => ?_, fun i j hj => ?_, fun i j hi hj => ?_⟩
  · rw [(uw i hi).2.2]
    by_cases q : i = b
    · subst q
      rw [if_pos rfl]
      simp only [if_true]
      rw [h.u i h2, ofN_more (m i) (by omega)]; rfl
    · rw [if_neg q]
      simp only [if_neg q]
      exact h.u i hi
  · have := h.mm i hi
    split <;> omega
  · have hij := h.a i j hi hj
    have hmin := h3 i hi
    by_cases q1 : j = b
    · subst q1
      rw [if_pos rfl, emb]
      by_cases q2 : i = j
      · subst q2; rw [if_pos rfl, emb]; omega
      · rw [if_neg q2]; omega
    · rw [if_neg q1]
      by_cases q2 : i = b
      · subst q2; rw [if_pos rfl, emb]; omega
      · rw [if_neg q2]; exact hij
  · rw [(uw i hi).2.1]
    by_cases q : i = b
    · rw [(pw i hi).2.2.1 q]
      exact Int.natCast_nonneg _
    · have h4 := (pw i hi).2.2.2 q
      have h5 := h.p i hi
      simp only [if_neg q]
      have hb4 : b = 0 ∨ b = 1 ∨ b = 2 ∨ b = 3 := by omega
      rcases hb4 with rfl | rfl | rfl | rfl <;> simp <;> omega
  · by_cases q : i = b
    · rw [if_pos q]
    · rw [if_neg q, if_neg q]; exact h.d i
  · by_cases q : i = b
    · rw [if_pos q]
    · rw [if_neg q, if_neg (by omega)]; exact h.z i j hj
  · have hij := h.b i j hi hj
    have hmin := h3 j hj
    by_cases q : i = b
    · subst q
      rw [if_pos rfl, if_pos rfl, emb, Nat.mul_zero]
      by_cases q2 : j = i
      · subst q2; rw [if_pos rfl, emb]; omega
      · rw [if_neg q2]; omega
    · rw [if_neg q, if_neg q]
      by_cases q2 : j = b
      · subst q2
        rw [if_pos rfl, if_pos rfl, emb, Nat.mul_add, Nat.mul_one]; omega
      · rw [if_neg q2, if_neg q2]; exact hij

/-- None has used more than one beyond another. -/
theorem pv_near {k : Nat} {v : Nat → One} {e m : Nat → Nat} {c : Nat → Nat → Nat} {s : Nat} (h : PV k v e m c s) (hs : s ≤ 60) (a b : Nat) (ha : a < k) (hb : b < k) : orderN (quo (v a).u (v a).w) (more (quo (v b).u (v b).w)) ≤ 0 := by
  obtain ⟨k1, b1⟩ := h.key hs a ha
  obtain ⟨k2, b2⟩ := h.key hs b hb
  rw [k1, k2, qW_more _ (by omega)]
  have := h.a b a hb ha
  have := inc_pos (e a)
  exact (qW_order (by omega) (by omega)).2 (by omega)
end Go.Proofs.Ytdpgpnjjonhdhaa.St
