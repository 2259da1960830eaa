/- The walk of cloisterlaw13.PipeOrder. No condition but those written in the statement. -/
import Derived.Test.YtamkkgmflconaaaPipOr
import Derived.Test.YtamkkgmflconaaaMix
import Derived.Test.YtamkkgmflconaaaWithin
import Derived.Deep.Cut
import Derived.Lib.Hide
namespace Go.Proofs.Ytamkkgmflconaaa.St
open Go.RowKit
set_option linter.unusedVariables false

attribute [local irreducible] Int.lt Int.le csN
set_option maxRecDepth 100000 in
set_option maxHeartbeats 4000000 in
theorem pipeOrder_walk (a0 : Option Addr) (len0 cap0 : Nat) (w : World) (w0 : IsMix [.int .i64, .int .i64, .int .i64, .bool] w a0 len0 cap0) :
    Calls Try.prog 8 #[.slice a0 len0 cap0] w fun e w' => e = .returned (.bool true) ∧ Below w.heap.size w w' := by
  go_enter Try.func8, Try.ntmps8
  go_wp2_with fail
  refine (s_new _).mono ?_; rintro e W1 ⟨t, d, q, L, rfl, S1⟩
  have c1 := S1.cell
  go_wp2_with fail
  refine (prun1 S1).mono ?_; rintro e W2 ⟨rfl, S2⟩
  clear S1 c1
  go_wp2_with fail
  have P2 := po_start
  generalize pz1 = st2 at *
  go_loopw [6, 7, 8] (fun o p k wr => ∃ (inn out s : ByteArray) (j : Nat) (st : VSt), o = .string inn ∧ p = .string out ∧ k = .int .i64 (j : Int) ∧ j ≤ 40 ∧ (inn.size : Int) ≤ 20 * j ∧ inn = out ++ s ∧ s.size ≤ 16 ∧ PHolds st 0 1 1 s ∧ Std w t L d q st wr) (fun _ _ k _ => 40 - (intOf k).toNat)
  case atStart => exact ⟨⟨#[]⟩, ⟨#[]⟩, ⟨#[]⟩, 0, st2, rfl, rfl, rfl, by omega, by decide, by kernel_rfl, by decide, P2, S2⟩
  case round =>
    clear P2 S2
    obtain ⟨inn, out, s, j, st3, rfl, rfl, rfl, j1, ho, hI, hs16, P3, S3⟩ := hrel
    have c3 := S3.cell
    have hsz : (inn.size : Int) = out.size + s.size := by rw [hI, ByteArray.size_append]; omega
    by_cases hlt : j < len0 ∧ j < 40
    · rcases w0 with ⟨_, q2, _⟩ | ⟨x, rfl, x1, x2, hx⟩
      · omega
      obtain ⟨v0, ⟨k0, rfl, _⟩, g0⟩ := mix_first hx 4 rfl j hlt.1 (.int .i64) rfl
      obtain ⟨v2, ⟨k2, rfl, _⟩, g2⟩ := mix_field hx 4 rfl j hlt.1 2 (.int .i64) rfl (by omega)
      have z0 := g0 _ S3.b
      have z2 := g2 _ S3.b
      have l1 : (j : Int) < len0 := by omega
      have l2 : (j : Int) < 40 := by omega
      have ij0 : (0 : Int) ≤ (j : Int) := by omega
      have HI := Lib.hid hI
      have b0 : (out.size : Int) ≤ 800 := by omega
      have b1 : (inn.size : Int) ≤ 800 := by omega
      have e1 : (inn.size : Int) - out.size = s.size := by omega
      have Hsz := Lib.hid hsz
      clear hx g0 g2 hI hsz
      have wc := Fp.within_bounds k2 1 20 (by omega)
      have E1 := Lib.hid e1
      clear e1
      go_upto_region 12 with fail
      rw [E1.out]
      clear E1
      by_cases hn : k0 = 2
      · rw [hn] at z0
        go_wp2_with fail
        refine (Fp.within_any k2 1 20 (by omega) (by omega) (by omega) _).mono ?_; rintro e W5 ⟨rfl, rfl⟩
        generalize Fp.withinI k2 1 20 = n0 at *
        obtain ⟨n1, n2⟩ := wc
        clear z0 z2
        have hD := took_size s n0 (by omega)
        have hR := left_size s n0 (by omega)
        have hTL := took_left s n0
        have hrd := fun y hy => po_read P3 n0 y (by omega) hy S3
        generalize pTook s n0 = D at *
        generalize pLeft s n0 = R at *
        have key : ((s.size : Int) = 0 ∧ (D.size : Int) = 0 ∧ (0 : Int) < n0) ∨ (¬ (s.size : Int) = 0 ∧ (D.size : Int) = n0 ∧ n0 ≤ (s.size : Int)) ∨ (¬ (s.size : Int) = 0 ∧ (D.size : Int) = s.size ∧ (s.size : Int) < n0) := by omega
        have hR16 : R.size ≤ 16 := by omega
        have hOs : (out.size : Int) + D.size ≤ inn.size := by have := Hsz.out; omega
        have HR := Lib.hid (And.intro hR hD)
        have HOs := Lib.hid hOs
        clear hR hD hOs
        rcases key with ⟨k1, k2, k3⟩ | ⟨k1, k2, k3⟩ | ⟨k1, k2, k3⟩
        case' inl => replace hrd := hrd 2 (by rw [if_pos (by omega)])
        case' inr.inl =>
          replace hrd := hrd 0 (by rw [if_neg (by omega)])
          have hse : ¬ s = ByteArray.empty := fun h => k1 (by rw [h]; rfl)
        case' inr.inr =>
          replace hrd := hrd 0 (by rw [if_neg (by omega)])
          have hse : ¬ s = ByteArray.empty := fun h => k1 (by rw [h]; rfl)
        all_goals
          have Hrd := Lib.hid hrd
          clear hrd
          go_wp2_with fail
          refine Hrd.out.mono ?_; rintro e W6 ⟨rfl, st4, P4, S4⟩
          clear Hrd S3 c3 P3
          go_upto_region 23 with fail
          obtain ⟨O, hO⟩ : ∃ O, O = out ++ D := ⟨_, rfl⟩
          rw [← hO]
          have hin : inn = O ++ R := by rw [hO, ByteArray.append_assoc, hTL]; exact HI.out
          have hsl : inn.extract 0 O.size = O := by rw [hin]; exact app_head O R
          have gO : (O.size : Int) ≤ inn.size := by rw [hO, ByteArray.size_append]; have := HOs.out; omega
          have Hin := Lib.hid hin
          clear hO hin HOs HR k1 k2 k3 HI Hsz hTL
          go_wp2_with fail
          exact ⟨⟨inn, O, R, j + 1, st4, rfl, rfl, by go_num, by omega, by omega, Hin.out, hR16, P4, S4⟩, by simp [intOf]; omega⟩
      · have hn2 : decide (k0 = 2) = false := decide_eq_false hn
        go_wp2_with fail
        refine (Fp.within_any k2 1 20 (by omega) (by omega) (by omega) _).mono ?_; rintro e W5 ⟨rfl, rfl⟩
        generalize Fp.withinI k2 1 20 = n0 at *
        go_wp2_with fail
        refine (text_any (j : Int) n0 (by omega) (by omega) _).mono ?_; rintro e W6 ⟨D, rfl, hD0, t6⟩
        subst hD0
        have S6 := S3.below t6
        have c6 := S6.cell
        clear z0 z2 c3 S3 t6
        obtain ⟨n1, n2⟩ := wc
        have hE := give_size s D hs16
        have hpart := give_part s D
        have hall := give_all s D
        have hwr := fun y hy => po_write P3 D y (by omega) (by omega) hs16 hy S6
        generalize pGive s D = E at *
        have key : ((s.size : Int) = 16 ∧ (E.size : Int) = 0 ∧ (0 : Int) < (D.size : Int)) ∨ (¬ (s.size : Int) = 16 ∧ (D.size : Int) ≤ 16 - (s.size : Int) ∧ (D.size : Int) ≤ 16 - (s.size : Int)) ∨ (¬ (s.size : Int) = 16 ∧ 16 - (s.size : Int) < (D.size : Int) ∧ (E.size : Int) = 16 - s.size) := by omega
        rcases key with ⟨k1, k2, k3⟩ | ⟨k1, k2, k3⟩ | ⟨k1, k2, k3⟩
        case inl => 
          replace hwr := hwr 2 (by rw [if_pos (by omega)])
          have hwr' := hwr
          obtain rfl := size_none (show E.size = 0 by omega)
          clear hwr hE hpart hall k2
          go_wp2_with fail
          refine hwr'.mono ?_; rintro e W7 ⟨rfl, st7, P7, S7⟩
          clear hwr' S6 c6 P3
          rw [show s ++ (⟨#[]⟩ : ByteArray) = s from ByteArray.append_empty] at P7
          go_upto_region 23 with fail
          have hsl : inn.extract 0 out.size = out := by rw [HI.out]; exact app_head out s
          have gO : (out.size : Int) ≤ inn.size := by have := Hsz.out; omega
          have HI2 := HI
          clear HI Hsz k1 k3
          go_wp2_with fail
          exact ⟨⟨inn, out, s, j + 1, st7, rfl, rfl, by go_num, by omega, by omega, HI2.out, hs16, P7, S7⟩, by simp [intOf]; omega⟩
        case inr.inl =>
          replace hwr := hwr 0 (by rw [if_neg (by omega)])
          have hwr' := Lib.hid hwr
          obtain rfl := hall k2
          clear hwr hE hall k3
          have e2 : wrap64 (16 - (s.size : Int)) = 16 - (s.size : Int) := by unfold wrap64; omega
          go_wp2_with fail
          refine hwr'.out.mono ?_; rintro e W7 ⟨rfl, st7, P7, S7⟩
          clear hwr' S6 c6 P3
          go_upto_region 23 with fail
          obtain ⟨I, hII⟩ : ∃ I, I = inn ++ E := ⟨_, rfl⟩
          rw [← hII]
          have hin : I = out ++ (s ++ E) := by rw [hII, HI.out, ByteArray.append_assoc]
          have hsl : I.extract 0 out.size = out := by rw [hin]; exact app_head out (s ++ E)
          have gI : (I.size : Int) = inn.size + E.size := by rw [hII, ByteArray.size_append]; omega
          have gI2 : (I.size : Int) ≤ 20 * ((j + 1 : Nat) : Int) := by omega
          have gO : (out.size : Int) ≤ I.size := by have := Hsz.out; omega
          have gS : (s ++ E).size ≤ 16 := by rw [ByteArray.size_append]; omega
          have Hin := Lib.hid hin
          clear hII hin gI HI Hsz k1 k2
          go_wp2_with fail
          exact ⟨⟨I, out, s ++ E, j + 1, st7, rfl, rfl, by go_num, by omega, gI2, Hin.out, gS, P7, S7⟩, by simp [intOf]; omega⟩
        case inr.inr =>
          replace hwr := hwr 0 (by rw [if_neg (by omega)])
          have hwr' := Lib.hid hwr
          clear hwr hE hall
          have e2 : wrap64 (16 - (s.size : Int)) = 16 - (s.size : Int) := by unfold wrap64; omega
          go_wp2_with fail
          refine hwr'.out.mono ?_; rintro e W7 ⟨rfl, st7, P7, S7⟩
          clear hwr' S6 c6 P3
          go_upto_region 23 with fail
          have hk : D.extract 0 (16 - s.size) = E := by rw [show 16 - s.size = E.size by omega]; exact hpart
          rw [hk]
          obtain ⟨I, hII⟩ : ∃ I, I = inn ++ E := ⟨_, rfl⟩
          rw [← hII]
          have hin : I = out ++ (s ++ E) := by rw [hII, HI.out, ByteArray.append_assoc]
          have hsl : I.extract 0 out.size = out := by rw [hin]; exact app_head out (s ++ E)
          have gI : (I.size : Int) = inn.size + E.size := by rw [hII, ByteArray.size_append]; omega
          have gI2 : (I.size : Int) ≤ 20 * ((j + 1 : Nat) : Int) := by omega
          have gO : (out.size : Int) ≤ I.size := by have := Hsz.out; omega
          have gS : (s ++ E).size ≤ 16 := by rw [ByteArray.size_append]; omega
          have Hin := Lib.hid hin
          clear hII hin gI HI Hsz k1 k2 k3 hk hpart
          go_wp2_with fail
          exact ⟨⟨I, out, s ++ E, j + 1, st7, rfl, rfl, by go_num, by omega, gI2, Hin.out, gS, P7, S7⟩, by simp [intOf]; omega⟩
    · clear w0
      have b0 : (out.size : Int) ≤ 800 := by omega
      have b2 : (s.size : Int) ≤ 16 := by omega
      subst hI
      clear hsz ho
      rcases (show (len0 ≤ j ∧ (len0 : Int) ≤ j) ∨ (j < len0 ∧ (j : Int) < len0 ∧ (40 : Int) ≤ j) by omega) with ⟨l1, l2⟩ | ⟨l1, l2, l3⟩
      all_goals
        go_wp2_with fail
        refine (po_ends P3 S3).mono ?_; rintro e W4 ⟨rfl, st4, P4, S4⟩
        have c4 := S4.cell
        clear P3 S3 c3
        go_wp2_with fail
        refine (po_last P4 hs16 S4).mono ?_; rintro e W5 ⟨rfl, st5, P5, S5⟩
        have c5 := S5.cell
        clear P4 S4 c4
        go_wp2_with fail
        refine (po_last P5 (by decide) S5).mono ?_; rintro e W6 ⟨rfl, st6, P6, S6⟩
        have b6 := S6.b
        clear P5 S5 c5 P6 S6
        go_wp2_with fail
        refine (pruns_any _).mono ?_; rintro e Wd ⟨rfl, td⟩
        go_wp2_with fail
        go_ret
        exact ⟨rfl, b6.trans (td.mono b6.size)⟩
end Go.Proofs.Ytamkkgmflconaaa.St
