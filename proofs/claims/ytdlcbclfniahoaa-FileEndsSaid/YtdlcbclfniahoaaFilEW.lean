/- The walk of cloisterlaw14.FileEnds. No condition but those written in each statement. -/
import Derived.Test.YtdlcbclfniahoaaFilE
namespace Go.Proofs.Ytdlcbclfniahoaa.St
open Go.RowKit
set_option linter.unusedVariables false

attribute [local go_sem] blk_alloc_at blk_alloc_past blk_drew blk_drewN blk_setB_same blk_setB_other blk_setRow_other setRow_alloc_at setRow_alloc_past setRow_drewN setRow_drew setB_size setB_cell setB_frozen setB_alloc_past setB_drewN setB_drew run_loadV loadOr_cells run_storeV storeOr_cells cells_size ones_cells cells_0 cells_1 cells_2 cells_3 cells_4 cells_16 cells_g0 cells_g1 cells_g2 cells_g3 cells_g4 cells_g16 cells_set0 cells_set1 cells_set2 cells_set3 cells_set4 cells_text
attribute [local go_sem ↓] execOp_loadV execOp_storeV

attribute [local go_sem] run_fieldN run_indexN
theorem none_list : (⟨#[]⟩ : ByteArray).toList = [] := by decide +kernel
attribute [local irreducible] Int.lt Int.le
set_option maxRecDepth 100000 in
set_option maxHeartbeats 40000000 in
theorem fileEnds_walk (a0 : ByteArray) (a1 a2 : Int) (w : World) (w0 : a0.size ≤ maxLen) (w1 : (Lit.int .i64 a1).wf = true) (w2 : (Lit.int .i64 a2).wf = true) :
    Calls Try.prog 6 #[.string a0, .int .i64 a1, .int .i64 a2] w fun e w' => e = .returned (.bool true) ∧ Below w.heap.size w w' := by
  have hz := zero_val
  go_enter Try.func6, Try.ntmps6
  go_wp2_with fail
  case' inl =>
    have hsz : (a0.extract 0 40).size ≤ 40 := by rw [ByteArray.size_extract]; omega
    generalize a0.extract 0 40 = T at *
  case' inr =>
    have hsz : a0.size ≤ 40 := by omega
    obtain ⟨T, hT⟩ : ∃ T, T = a0 := ⟨_, rfl⟩
    rw [← hT] at hsz ⊢
    clear hT
  all_goals
    refine (s_new _).mono ?_; rintro e W1 ⟨t, d, q, L, rfl, S1⟩
    have c1 := S1.cell
    go_wp2_with fail
    refine (prun1 S1).mono ?_; rintro e W2 ⟨rfl, S2⟩
    clear S1 c1
    go_wp2_with fail
    refine (e_open1 S2).mono ?_; rintro e W3 ⟨rfl, S3⟩
    clear S2
    go_wp2_with fail
    refine (e_open2 S3).mono ?_; rintro e W4 ⟨rfl, st4, H4, S4⟩
    clear S3
    go_wp2_with fail
    have wb := Fp.within_bounds a1 1 16 (by omega)
    refine (Fp.within_any a1 1 16 (by omega) (by omega) (by omega) _).mono ?_; rintro e Wx ⟨rfl, rfl⟩
    generalize Fp.withinI a1 1 16 = k at *
    have k1 : 1 ≤ k := wb.1
    have k2 : k ≤ 16 := wb.2
    clear wb
    go_wp2_with fail
    refine (text_any a1 k (by omega) (by omega) _).mono ?_; rintro e W5 ⟨D, rfl, hD, t5⟩
    have S5 := S4.below t5
    clear S4 t5
    subst hD
    have hD1 : 0 < D.size := by omega
    have hD2 : D.size ≤ 16 := by omega
    have HD := Lib.hid (And.intro hD1 hD2)
    clear hD1 hD2 k1 k2
    go_wp2_with fail
    refine (e_write S5 H4 HD.out.1 HD.out.2).mono ?_; rintro e W6 ⟨rfl, st6, H6, S6⟩
    clear S5 H4
    go_wp2_with fail
    refine (e_readall S6 H6 HD.out.1 HD.out.2).mono ?_; rintro e W7 ⟨rfl, st7, H7, S7⟩
    clear S6 H6
    go_wp2_with fail
    refine (e_wait S7 H7).mono ?_; rintro e W8 ⟨rfl, st8, H8, S8⟩
    clear S7 H7
    go_wp2_with fail
    refine (e_bad S8 H8 _).mono ?_; rintro e W9 ⟨rfl, st9, H9, S9⟩
    clear S8 H8
    go_wp2_with fail
    refine (e_odd S9 H9).mono ?_; rintro e Wa ⟨rfl, sta, Ha, Sa⟩
    clear S9 H9
    go_wp2_with fail
    refine (e_close1 Sa Ha).mono ?_; rintro e Wb ⟨rfl, stb, Hb, Sb⟩
    clear Sa Ha
    go_wp2_with fail
    refine (e_end Sb Hb).mono ?_; rintro e Wc ⟨rfl, stc, Hc, Sc⟩
    clear Sb Hb
    go_wp2_with fail
    refine (e_close0 Sc Hc).mono ?_; rintro e Wd ⟨rfl, std, Hd, Sd⟩
    clear Sc Hc
    go_wp2_with fail
    refine (e_pis Sd Hd).mono ?_; rintro e We ⟨rfl, ste, He, Se⟩
    clear Sd Hd
    go_wp2_with fail
    refine (e_alloc Se He).mono ?_; rintro e Wf ⟨rfl, stf, Hf, Sf⟩
    clear Se He
    go_wp2_with fail
    refine (e_open Sf Hf).mono ?_; rintro e Wg ⟨rfl, stg, Hg, Sg⟩
    clear Sf Hf
    go_wp2_with fail
    refine (e_get Sg Hg).mono ?_; rintro e Wh ⟨rfl, sth, Hh, Sh⟩
    clear Sg Hg
    go_wp2_with fail
    have Si := Sh.below ((Below.refl Wh.heap.size Wh).alloc (Nat.le_refl _) (Obj.cells (Val.zero.text T).cells 58))
    generalize Wh.alloc (Obj.cells (Val.zero.text T).cells 58) = Wi at *
    clear Sh
    refine (e_put Si Hh (Val.zero.text T)).mono ?_; rintro e Wj ⟨rfl, stj, Hj, Sj⟩
    clear Si Hh
    go_wp2_with fail
    have wb := Fp.within_bounds a2 1 50 (by omega)
    refine (Fp.within_any a2 1 50 (by omega) (by omega) (by omega) _).mono ?_; rintro e Wx ⟨rfl, rfl⟩
    generalize Fp.withinI a2 1 50 = n at *
    have n1 : 1 ≤ n := wb.1
    have n2 : n ≤ 50 := wb.2
    have n0 : 0 < n := by omega
    clear wb
    go_wp2_with fail
    have key : (T.size = 0 ∧ T = ⟨#[]⟩) ∨ (0 < T.size ∧ n ≤ (T.size : Int) ∧ pTook T n = T.extract 0 n.toNat) ∨ (0 < T.size ∧ (T.size : Int) < n ∧ pTook T n = T) := by
      by_cases h0 : T.size = 0
      · exact Or.inl ⟨h0, size_none h0⟩
      · unfold pTook
        by_cases c : n ≤ (T.size : Int)
        · exact Or.inr (Or.inl ⟨by omega, c, by rw [show min n (T.size : Int) = n by omega]⟩)
        · exact Or.inr (Or.inr ⟨by omega, by omega, by rw [show (min n (T.size : Int)).toNat = T.size by omega]; exact ByteArray.extract_zero_size⟩)
    rcases key with ⟨h0, h1⟩ | ⟨h0, h1, h2⟩ | ⟨h0, h1, h2⟩
    case' inl =>
      have HR := Lib.hid (show (T = pTook (Val.zero.text T).s n ∧ (2 : Int) = 0 ∧ 0 < (Val.zero.text T).s.size) ∨ (T = ⟨#[]⟩ ∧ (2 : Int) = 2 ∧ (Val.zero.text T).s = ⟨#[]⟩) from Or.inr ⟨h1, rfl, h1⟩)
      have q1 : T.toList = [] := by rw [h1]; exact none_list
      have q2 : T.toList.isEmpty = true := by rw [h1, none_list]; rfl
      have h2 : (T.size : Int) < n := by omega
      clear h1
    case' inr.inl =>
      have HR := Lib.hid (show (T.extract 0 n.toNat = pTook (Val.zero.text T).s n ∧ (0 : Int) = 0 ∧ 0 < (Val.zero.text T).s.size) ∨ (T.extract 0 n.toNat = ⟨#[]⟩ ∧ (0 : Int) = 2 ∧ (Val.zero.text T).s = ⟨#[]⟩) from Or.inl ⟨h2.symm, rfl, h0⟩)
      have q1 := list_ne h0
      have q2 := list_some T h0
    case' inr.inr =>
      have HR := Lib.hid (show (T = pTook (Val.zero.text T).s n ∧ (0 : Int) = 0 ∧ 0 < (Val.zero.text T).s.size) ∨ (T = ⟨#[]⟩ ∧ (0 : Int) = 2 ∧ (Val.zero.text T).s = ⟨#[]⟩) from Or.inl ⟨h2.symm, rfl, h0⟩)
      have q1 := list_ne h0
      have q2 := list_some T h0
    all_goals
      refine (e_read Sj Hj n n0 _ _ HR.out).mono ?_; rintro e Wk ⟨rfl, stk, z, Hk, Sk⟩
      clear Sj Hj HR
      go_wp2_with fail
      refine (e_shown Sk Hk T (by omega)).mono ?_; rintro e Wl ⟨rfl, stl, y, Hl, Sl⟩
      clear Sk Hk
      have hX : (consN ((Val.zero.text T).text z) T.size y).n 0 = (T.size : Int) := by rw [consN_n0]; exact cN_small _ (by omega)
      generalize consN ((Val.zero.text T).text z) T.size y = X at *
      go_wp2_with fail
      refine (e_get Sl Hl).mono ?_; rintro e Wm ⟨rfl, stm, Hm, Sm⟩
      have bm := Sm.b
      clear Sl Hl Hm Sm
      go_wp2_with fail
      refine (fruns_any _).mono ?_; rintro e Wn ⟨rfl, bn⟩
      go_wp2_with fail
      go_ret
      exact ⟨rfl, bm.trans (bn.mono bm.size)⟩
end Go.Proofs.Ytdlcbclfniahoaa.St
