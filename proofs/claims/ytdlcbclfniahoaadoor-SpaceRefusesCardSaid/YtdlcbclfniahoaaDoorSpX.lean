/- The walk of cloisterlaw16.SpaceRefuses. Where the library's table holds what its initialiser lays. -/
import Derived.Test.YtdlcbclfniahoaaDoorSpK
import Derived.Test.YtdlcbclfniahoaaDoorDoorS
import Derived.Test.YtdlcbclfniahoaaDoorWithin
namespace Go.Proofs.YtdlcbclfniahoaaDoor.St
open Go.RowKit
set_option linter.unusedVariables false

/-! ### What is refused -/
def re0 (K : Nat) : SpS := pS (2 ^ K - 1)
def re1 (K : Nat) : SpS := hA (re0 K) 0 0
def re2 (K : Nat) : SpS := gA (re1 K) 0 K
theorem re_ones : ∀ K, K < 6 → ones64 (IntKind.u64.wrap (re0 K).f) = K := by decide +kernel
theorem re_yes : ∀ K, K < 6 → hOk (re0 K) 0 0 = true ∧ hL (re0 K) 0 0 = [] ∧ ones64 (IntKind.u64.wrap (re1 K).f) = K ∧ pgA (re1 K) 0 = [] ∧ gOk (re1 K) 0 K = true ∧ ones64 (IntKind.u64.wrap (re2 K).f) = 0 := by decide +kernel
theorem re_size : ∀ K, K < 6 → (∀ p, p < 2 → ((re1 K).X p).size ≤ 1000) ∧ (∀ p, p < 2 → ((re1 K).M p).size ≤ 1000) := by decide +kernel
theorem re_no1 (K : Nat) (h : K < 6) : gOk (re0 K) 0 (K + 1) = false := by
  unfold gOk
  have := re_ones K h
  exact decide_eq_false (by omega)
theorem re_no2 (K : Nat) : gOk (re0 K) 0 7 = false := decide_eq_false (by
  have : ((re0 K).X (0 : Int).toNat).size = 0 := rfl
  omega)
theorem re_no3 (K : Nat) (n : Int) (h : n < 0) : gOk (re0 K) 0 n = false := decide_eq_false (by omega)
theorem re_no4 (K : Nat) (p n : Int) (h : 2 ≤ p) : gOk (re0 K) p n = false := decide_eq_false (by omega)
theorem re_no5 (K : Nat) : hOk (re0 K) 0 1 = false := decide_eq_false (by
  have : ((re0 K).X (0 : Int).toNat).size = 0 := rfl
  omega)
theorem re_no6 (K : Nat) (n : Int) (h : n < 0) : hOk (re0 K) 0 n = false := decide_eq_false (by omega)
theorem re_no7 (K : Nat) (p n : Int) (h : 2 ≤ p) : hOk (re0 K) p n = false := decide_eq_false (by omega)
theorem gA_no {a : SpS} {p n : Int} (h : gOk a p n = false) : gA a p n = a := by unfold gA; rw [h]; rfl
theorem hA_no {a : SpS} {p n : Int} (h : hOk a p n = false) : hA a p n = a := by unfold hA; rw [h]; rfl
theorem re_pow : ∀ K, K < 6 → wrap64 (wrap64 (2 ^ K) - 1) = 2 ^ K - 1 := by decide +kernel
attribute [local irreducible] Int.lt Int.le
set_option maxRecDepth 100000 in
set_option maxHeartbeats 1000000 in
theorem spaceRefuses_walk (a0 a1 a2 : Int) (w : World) (w0 : (Lit.int .i64 a0).wf = true) (w1 : (Lit.int .i64 a1).wf = true) (w2 : (Lit.int .i64 a2).wf = true) (hM : Bx w) :
    Calls Tryd.prog 6 #[.int .i64 a0, .int .i64 a1, .int .i64 a2] w fun e w' => e = .returned (.bool true) ∧ Below w.heap.size w w' := by
  have zX : ∀ K p, p < 2 → ((re0 K).X p).size ≤ 1000 := fun K p _ => by show (0 : Nat) ≤ 1000; omega
  have zM : ∀ K p, p < 2 → ((re0 K).M p).size ≤ 1000 := fun K p _ => by show (0 : Nat) ≤ 1000; omega
  go_enter Tryd.func6, Tryd.ntmps6
  go_wp2_with fail
  have kb := Fp.within_bounds a0 0 5 (by omega)
  refine (Fp.within_any a0 0 5 (by omega) (by omega) (by omega) _).mono ?_; rintro e W1 ⟨rfl, rfl⟩
  generalize Fp.withinI a0 0 5 = k at *
  obtain ⟨K, rfl⟩ := Int.eq_ofNat_of_zero_le kb.1
  have k0 : (0 : Int) ≤ (K : Int) := kb.1
  have k1 : (K : Int) < 64 := by omega
  have hK : K < 6 := by omega
  clear kb
  go_wp2_with fail
  rw [re_pow K hK]
  refine (lpool_any _ _).mono ?_; rintro e W0 ⟨t, d, q, L, rfl, S0⟩
  have R0 : SR _ (re0 K) := pl2_SR _
  have c0 := S0.cell
  go_wp2_with fail
  refine (s_free S0 R0).mono ?_; rw [re_ones K hK]; rintro e W1 ⟨rfl, st1, R1, S1, _⟩
  clear S0 R0 c0
  go_wp2_with fail
  have h1 := s_grow S1 R1 hM (zX K) (zM K) 0 (K + 1) (by omega)
  rw [re_no1 K hK, gA_no (re_no1 K hK)] at h1
  refine h1.mono ?_; rintro e W2 ⟨rfl, st2, R2, S2, _⟩
  clear S1 R1 h1
  go_wp2_with fail
  have h1 := s_grow S2 R2 hM (zX K) (zM K) 0 7 (by omega)
  rw [re_no2 K, gA_no (re_no2 K)] at h1
  refine h1.mono ?_; rintro e W3 ⟨rfl, st3, R3, S3, _⟩
  clear S2 R2 h1
  go_wp2_with fail
  have kb := Fp.within_bounds a1 0 9 (by omega)
  refine (Fp.within_any a1 0 9 (by omega) (by omega) (by omega) _).mono ?_; rintro e W4 ⟨rfl, rfl⟩
  obtain ⟨g, hg⟩ : ∃ g, g = Fp.withinI a1 0 9 := ⟨_, rfl⟩
  rw [← hg] at kb ⊢
  have Hg := Lib.hid hg
  clear hg
  go_wp2_with fail
  have hneg : -1 - g < 0 := by omega
  have h1 := s_grow S3 R3 hM (zX K) (zM K) 0 (-1 - g) (by omega)
  rw [re_no3 K _ hneg, gA_no (re_no3 K _ hneg)] at h1
  refine h1.mono ?_; rintro e W5 ⟨rfl, st5, R5, S5, _⟩
  clear S3 R3 h1
  go_wp2_with fail
  have kb2 := Fp.within_bounds a2 0 20 (by omega)
  refine (Fp.within_any a2 0 20 (by omega) (by omega) (by omega) _).mono ?_; rintro e W6 ⟨rfl, rfl⟩
  generalize Fp.withinI a2 0 20 = b at *
  go_wp2_with fail
  have h1 := s_grow S5 R5 hM (zX K) (zM K) (2 + b) 1 (by omega)
  rw [re_no4 K _ _ (by omega), gA_no (re_no4 K _ _ (by omega))] at h1
  refine h1.mono ?_; rintro e W7 ⟨rfl, st7, R7, S7, _⟩
  clear S5 R5 h1 kb2
  go_wp2_with fail
  have h1 := s_shrink S7 R7 (zX K) (zM K) 0 1 (by omega)
  rw [re_no5 K, hA_no (re_no5 K)] at h1
  refine h1.mono ?_; rintro e W8 ⟨v8, rfl, _, st8, R8, S8, _⟩
  clear S7 R7 h1
  go_wp2_with fail
  refine (Fp.within_any a1 0 9 (by omega) (by omega) (by omega) _).mono ?_; rintro e W9 ⟨rfl, rfl⟩
  rw [← Hg.out]
  go_wp2_with fail
  have h1 := s_shrink S8 R8 (zX K) (zM K) 0 (-1 - g) (by omega)
  rw [re_no6 K _ hneg, hA_no (re_no6 K _ hneg)] at h1
  refine h1.mono ?_; rintro e W10 ⟨v10, rfl, _, st10, R10, S10, _⟩
  clear S8 R8 h1
  go_wp2_with fail
  have h1 := s_shrink S10 R10 (zX K) (zM K) 5 0 (by omega)
  rw [re_no7 K _ _ (by omega), hA_no (re_no7 K _ _ (by omega))] at h1
  refine h1.mono ?_; rintro e W11 ⟨v11, rfl, _, st11, R11, S11, _⟩
  clear S10 R10 h1
  go_wp2_with fail
  obtain ⟨y1, y2, y3, y4, y5, y6⟩ := re_yes K hK
  obtain ⟨zX1, zM1⟩ := re_size K hK
  have h1 := s_shrink S11 R11 (zX K) (zM K) 0 0 (by omega)
  rw [y1, y2] at h1
  refine h1.mono ?_; rintro e W12 ⟨v12, rfl, il, st12, R12, S12, _⟩
  rw [show hA (re0 K) 0 0 = re1 K from rfl] at R12
  obtain ⟨x12, k12, rfl, _⟩ := (il.1 rfl).nr
  clear S11 R11 h1 il
  go_wp2_with fail
  refine (s_free S12 R12).mono ?_; rw [y3]; rintro e W13 ⟨rfl, st13, R13, S13, _⟩
  clear S12 R12
  go_wp2_with fail
  refine (s_pages S13 R13 zX1 0 (by decide)).mono ?_; rw [y4]; rintro e W14 ⟨v14, rfl, il, st14, R14, S14, _⟩
  obtain ⟨x14, k14, rfl, _⟩ := il.nr
  clear S13 R13 il
  go_wp2_with fail
  have h1 := s_grow S14 R14 hM zX1 zM1 0 K (by omega)
  rw [y5] at h1
  refine h1.mono ?_; rintro e W15 ⟨rfl, st15, R15, S15, _⟩
  rw [show gA (re1 K) 0 K = re2 K from rfl] at R15
  clear S14 R14 h1
  go_wp2_with fail
  refine (s_free S15 R15).mono ?_; rw [y6]; rintro e W16 ⟨rfl, st16, R16, S16, _⟩
  clear S15 R15
  go_wp2_with fail
  refine (spaceRuns_any _ (hM.below (Nat.le_refl _) S16.b)).mono ?_; rintro e W17 ⟨rfl, b17⟩
  go_wp2_with fail
  go_ret
  exact ⟨rfl, S16.b.trans (b17.mono S16.b.size)⟩
end Go.Proofs.YtdlcbclfniahoaaDoor.St
