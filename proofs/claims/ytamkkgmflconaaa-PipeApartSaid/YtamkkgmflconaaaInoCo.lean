/- What InodeCounts' calls answer and leave: contracts of its own, with the counts as they stand. No condition but those written in each statement. -/
import Derived.Test.YtamkkgmflconaaaStd
namespace Go.Proofs.Ytamkkgmflconaaa.St
open Go.RowKit
set_option linter.unusedVariables false

theorem ac_get (st : VSt) (t : Int) (h : iFree st = 16) (k n : Int) : (iAlloc st t).get k n = st.get k n := by
  unfold iAlloc; rw [if_neg (by omega), get_saw]

/-- All inodes are had, none is linked or held. -/
def AllHad (st : VSt) : Prop := (st.get 9 0).n 0 = 65534 ∧ ∀ i : Int, 1 ≤ i → i ≤ 15 → Holds st i 2 0 0 ByteArray.empty
theorem allHad_full (x : Int) : AllHad (iAlloc (csN 15) x) := by
  refine ⟨by rw [ac_get _ _ cs_full]; exact cs_used, fun i h1 h2 => ?_⟩
  have h := cs_holds 15 (by omega) i.toNat (by omega) (by omega)
  rw [Int.toNat_of_nonneg (by omega)] at h
  unfold Holds
  rw [ac_get _ _ cs_full]; exact h

/-- Inode i has a links and b holders, and goes with the last one. -/
def CRel (st : VSt) (i : Int) (a b : Nat) : Prop := (0 < a + b → Holds st i 2 a b ByteArray.empty ∧ (st.get 9 0).n 0 = 65534) ∧ (a + b = 0 → st.get 10 i = Val.zero ∧ (st.get 9 0).n 0 = unmarkI 65534 i)

theorem crel_saw {st : VSt} {i : Int} {a b : Nat} (h : CRel st i a b) (j : Int) : CRel (iSaw st j) i a b := by
  unfold CRel Holds; rw [get_iSaw, get_iSaw]; exact h

theorem crel_first {st : VSt} (h : AllHad st) (i : Int) (h1 : 1 ≤ i) (h2 : i ≤ 15) (a b : Nat) (ha : a ≤ 5) (hb : b ≤ 5) (hb1 : 1 ≤ b) : CRel (iChange st i a b) i a b ∧ iHas st i = true := by
  have H := h.2 i h1 h2
  have w1 := wrap_small (0 + (a : Int)) (by omega) (by omega)
  have w2 := wrap_small (0 + (b : Int)) (by omega) (by omega)
  obtain ⟨k1, k2⟩ := holds_change H (by decide) h1 (by omega) a b (by rw [w1, w2]; omega)
  rw [w1, w2, Int.zero_add, Int.zero_add] at k1
  exact ⟨⟨fun _ => ⟨k1, by rw [k2]; exact h.1⟩, fun q => by omega⟩, (holds_val H (by decide) h1 (by omega)).2.2.2.2⟩

theorem crel_down {st : VSt} {i : Int} {a b : Nat} (h : CRel st i a b) (h1 : 1 ≤ i) (h2 : i ≤ 15) (ha : a ≤ 5) (hb : b ≤ 5) (c e : Nat) (hc5 : c ≤ 5) (he5 : e ≤ 5) (dl dh : Int) (hc : (c : Int) = a + dl) (he : (e : Int) = b + dh) (hp : 0 < a + b) : CRel (iChange st i dl dh) i c e := by
  obtain ⟨H, hu⟩ := h.1 hp
  by_cases hz : c + e = 0
  · have w1 := wrap_small ((a : Int) + dl) (by omega) (by omega)
    have w2 := wrap_small ((b : Int) + dh) (by omega) (by omega)
    obtain ⟨k1, k2⟩ := gone_change H (by decide) h1 (by omega) dl dh (by rw [w1, w2]; omega)
    exact ⟨fun q => by omega, fun _ => ⟨k1, by rw [k2, hu]⟩⟩
  · have w1 := wrap_small ((a : Int) + dl) (by omega) (by omega)
    have w2 := wrap_small ((b : Int) + dh) (by omega) (by omega)
    obtain ⟨k1, k2⟩ := holds_change H (by decide) h1 (by omega) dl dh (by rw [w1, w2]; omega)
    rw [w1, w2, ← hc, ← he] at k1
    exact ⟨fun _ => ⟨k1, by rw [k2]; exact hu⟩, fun q => absurd q hz⟩

section
variable {w W : World} {t : Nat} {L : Lay} {d q : Nat} {st : VSt}

theorem co_alloc (n : Nat) (hn : n < 15) (S : Std w t L d q (csN n) W) : Calls Try.prog 15 #[.pointer (some ⟨L.v, 0, none⟩), .int .i64 2] W fun e W' => e = .returned (.tuple #[.int .i64 ((n + 1 : Nat) : Int), .bool true]) ∧ Std w t L d q (csN (n + 1)) W' ∧ Maps L W W' := by
  have h := s_alloc S 2
  have hf := cs_free n hn
  rw [show iGot (csN n) = ((n + 1 : Nat) : Int) by unfold iGot; rw [hf, if_pos (by omega)], show decide (iFree (csN n) < 16) = true by rw [hf]; simp; omega] at h
  exact h
theorem co_full (x : Int) (S : Std w t L d q (csN 15) W) : Calls Try.prog 15 #[.pointer (some ⟨L.v, 0, none⟩), .int .i64 x] W fun e W' => e = .returned (.tuple #[.int .i64 0, .bool false]) ∧ ∃ st', AllHad st' ∧ Std w t L d q st' W' := by
  have h := s_alloc S x
  rw [show iGot (csN 15) = 0 by unfold iGot; rw [cs_full, if_neg (by decide)], show decide (iFree (csN 15) < 16) = false by rw [cs_full]; decide] at h
  exact h.mono fun e W' ⟨a, b, _⟩ => ⟨a, _, allHad_full x, b⟩
theorem co_first (h : AllHad st) (i : Int) (h1 : 1 ≤ i) (h2 : i ≤ 15) (a b : Nat) (ha : a ≤ 5) (hb : b ≤ 5) (hb1 : 1 ≤ b) (S : Std w t L d q st W) : Calls Try.prog 18 #[.pointer (some ⟨L.v, 0, none⟩), .int .i64 i, .int .i64 (a : Int), .int .i64 (b : Int)] W fun e W' => e = .returned (.bool true) ∧ ∃ st', CRel st' i a b ∧ Std w t L d q st' W' := by
  obtain ⟨k1, k2⟩ := crel_first h i h1 h2 a b ha hb hb1
  have h := s_change S i a b
  rw [k2] at h
  exact h.mono fun e W' ⟨x, y, _⟩ => ⟨x, _, k1, y⟩
theorem co_links {i : Int} {a b : Nat} (h : CRel st i a b) (h1 : 1 ≤ i) (h2 : i ≤ 15) (hp : 0 < a + b) (S : Std w t L d q st W) : Calls Try.prog 24 #[.pointer (some ⟨L.v, 0, none⟩), .int .i64 i] W fun e W' => e = .returned (.int .i64 (a : Int)) ∧ ∃ st', CRel st' i a b ∧ Std w t L d q st' W' :=
  (s_links S (h.1 hp).1 (by decide) h1 (by omega)).mono fun e W' ⟨x, y, _⟩ => ⟨x, _, crel_saw h i, y⟩
theorem co_is {i : Int} {a b : Nat} (h : CRel st i a b) (h1 : 1 ≤ i) (h2 : i ≤ 15) (hp : 0 < a + b) (S : Std w t L d q st W) : Calls Try.prog 19 #[.pointer (some ⟨L.v, 0, none⟩), .int .i64 i] W fun e W' => e = .returned (.bool true) ∧ ∃ st', CRel st' i a b ∧ Std w t L d q st' W' := by
  have k := s_is S i
  rw [(holds_val (h.1 hp).1 (by decide) h1 (by omega)).2.2.2.2] at k
  exact k.mono fun e W' ⟨x, y, _⟩ => ⟨x, _, crel_saw h i, y⟩
theorem co_down {i : Int} {a b : Nat} (h : CRel st i a b) (h1 : 1 ≤ i) (h2 : i ≤ 15) (ha : a ≤ 5) (hb : b ≤ 5) (c e : Nat) (hc5 : c ≤ 5) (he5 : e ≤ 5) (dl dh : Int) (hc : (c : Int) = a + dl) (he : (e : Int) = b + dh) (hp : 0 < a + b) (S : Std w t L d q st W) : Calls Try.prog 18 #[.pointer (some ⟨L.v, 0, none⟩), .int .i64 i, .int .i64 dl, .int .i64 dh] W fun r W' => r = .returned (.bool true) ∧ ∃ st', CRel st' i c e ∧ Std w t L d q st' W' := by
  have k := s_change S i dl dh
  rw [(holds_val (h.1 hp).1 (by decide) h1 (by omega)).2.2.2.2] at k
  exact k.mono fun r W' ⟨x, y, _⟩ => ⟨x, _, crel_down h h1 h2 ha hb c e hc5 he5 dl dh hc he hp, y⟩
theorem co_again {i : Int} (h : CRel st i 0 0) (h1 : 1 ≤ i) (h2 : i ≤ 15) (S : Std w t L d q st W) : Calls Try.prog 15 #[.pointer (some ⟨L.v, 0, none⟩), .int .i64 1] W fun e W' => e = .returned (.tuple #[.int .i64 i, .bool true]) ∧ ∃ st', Holds st' i 1 0 0 ByteArray.empty ∧ Std w t L d q st' W' := by
  obtain ⟨z, u⟩ := h.2 rfl
  obtain ⟨n, hn⟩ : ∃ n : Nat, i = ((n + 1 : Nat) : Int) := ⟨i.toNat - 1, by omega⟩
  have hf : iFree st = n + 1 := by
    unfold iFree
    rw [u, hn]
    exact free_again n (by omega)
  have k := s_alloc S 1
  have g := alloc_same st 1 (by omega) (by omega)
  rw [hf] at g
  rw [show iGot st = ((n + 1 : Nat) : Int) by unfold iGot; rw [hf, if_pos (by omega)], show decide (iFree st < 16) = true by rw [hf]; simp; omega] at k
  subst hn
  exact k.mono fun r W' ⟨x, y, _⟩ => ⟨x, _, g, y⟩
theorem co_out {i : Int} (H : Holds st i 1 0 0 ByteArray.empty) (j : Int) (hj : j < 1 ∨ 16 ≤ j) (h1 : 1 ≤ i) (h2 : i ≤ 15) (a b : Int) (S : Std w t L d q st W) : Calls Try.prog 18 #[.pointer (some ⟨L.v, 0, none⟩), .int .i64 j, .int .i64 a, .int .i64 b] W fun r W' => r = .returned (.bool false) ∧ ∃ st', Holds st' i 1 0 0 ByteArray.empty ∧ Std w t L d q st' W' := by
  have k := s_change S j a b
  rw [iHas_out st j hj] at k
  exact k.mono fun r W' ⟨x, y, _⟩ => ⟨x, _, holds_change_other H j a b (by omega), y⟩
theorem co_type {i : Int} (H : Holds st i 1 0 0 ByteArray.empty) (h1 : 1 ≤ i) (h2 : i ≤ 15) (S : Std w t L d q st W) : Calls Try.prog 25 #[.pointer (some ⟨L.v, 0, none⟩), .int .i64 i] W fun e W' => e = .returned (.int .i64 1) ∧ ∃ st', Holds st' i 1 0 0 ByteArray.empty ∧ Std w t L d q st' W' :=
  (s_type S H (by decide) h1 (by omega)).mono fun e W' ⟨x, y, _⟩ => ⟨x, _, holds_saw H i, y⟩
theorem co_size {i : Int} (H : Holds st i 1 0 0 ByteArray.empty) (h1 : 1 ≤ i) (h2 : i ≤ 15) (S : Std w t L d q st W) : Calls Try.prog 23 #[.pointer (some ⟨L.v, 0, none⟩), .int .i64 i] W fun e W' => e = .returned (.int .i64 0) ∧ Below w.heap.size w W' := by
  have k := s_size S i
  rw [(holds_val H (by decide) h1 (by omega)).1] at k
  exact k.mono fun e W' ⟨x, y, _⟩ => ⟨x, y.b⟩
end
end Go.Proofs.Ytamkkgmflconaaa.St
