/- The walk of cloisterlaw12.PathSteps. No condition but those written in each statement. -/
import Derived.Test.YtcefigpdodlonaaDoorPatH
namespace Go.Proofs.YtcefigpdodlonaaDoor.St
open Go.RowKit
set_option linter.unusedVariables false

theorem row_at {k : IntKind} {w : World} {a : Option Addr} {len cap : Nat} {zs : List Int} (h : IsRow k w a len cap zs) (i : Nat) (hi : i < len) : ∃ x, a = some x ∧ w.cell? (x.add i) = some (.int k (zs.getD i 0)) := by
  rcases h with ⟨_, q, _⟩ | ⟨x, e, h1, _, h3, h4, _⟩
  · omega
  · exact ⟨x, e, h4 i (by omega)⟩
theorem pw_start {st : VSt} : PW st [] 1 0 := ⟨Nat.le_refl _, Or.inl rfl, rfl, rfl⟩

attribute [local irreducible] Int.lt Int.le csN trN
set_option maxRecDepth 100000 in
set_option maxHeartbeats 4000000 in
theorem pathSteps_walk (a0 : Option Addr) (len0 cap0 : Nat) (a1 : Option Addr) (len1 cap1 : Nat) (z1 : List Int) (w : World) (w0 : IsMix [.int .i64, .int .i64, .bool] w a0 len0 cap0) (w1 : IsRow .i64 w a1 len1 cap1 z1) (hM : Mx w) :
    Calls Tryd.prog 4 #[.slice a0 len0 cap0, .slice a1 len1 cap1] w fun e w' => e = .returned (.bool true) ∧ Below w.heap.size w w' := by
  have hone := run_one_text
  go_enter Tryd.func4, Tryd.ntmps4
  go_wp2_with fail
  refine (grown_any _ _ _ _ w0 hM).mono ?_; rintro e W1 ⟨t, d, q, L, rfl, st1, m, K, R, par, G1, S1⟩
  have P1 : PA w W1 t L d q m K R par [] 1 0 := ⟨st1, G1, pw_start, S1, by decide, by have := G1.le; omega⟩
  have hm := G1.le.2
  clear G1 S1 w0
  go_wp2_with fail
  go_loopw [6, 7, 8] (fun p at' k wr => ∃ (j : Nat) (l : List UInt8) (a : Int), j ≤ 6 ∧ p = .string (bs (l ++ [47])) ∧ at' = .int .i64 a ∧ k = .int .i64 (j : Int) ∧ PA w wr t L d q m K R par l a (2 * j)) (fun _ _ k _ => 6 - (intOf k).toNat)
  case atStart => exact ⟨0, [], 1, by omega, rfl, rfl, rfl, P1⟩
  case round =>
    clear P1
    obtain ⟨j, l, a, j1, rfl, rfl, rfl, P⟩ := hrel
    have c6 : wr.cell? ⟨t, 1, none⟩ = some (.pointer (some ⟨L.v, 0, none⟩)) := by obtain ⟨st, _, _, S, _⟩ := P; exact S.cell
    have bw : Below w.heap.size w wr := by obtain ⟨st, _, _, S, _⟩ := P; exact S.b
    obtain ⟨Pp, hPp⟩ : ∃ Pp, Pp = bs (l ++ [47]) := ⟨_, rfl⟩
    have hPl : Pp.data.toList = l ++ [47] := by rw [hPp, list_bs]
    have hPs : (Pp.size : Int) ≤ 13 := by
      rw [hPp, bs_size]
      obtain ⟨st, _, X, _⟩ := P
      have := X.len
      simp; omega
    rw [← hPp]
    clear hPp
    by_cases hlt : j < len1 ∧ j < 6
    · obtain ⟨x, rfl, x0⟩ := row_at w1 j hlt.1
      have y0 := (bw.cell (World.block_lt_of_cell? _ _ x0)).trans x0
      have l1 : (j : Int) < len1 := by omega
      have l2 : (j : Int) < 6 := by omega
      have l0 : (0 : Int) ≤ (j : Int) := by omega
      clear x0
      generalize z1.getD j 0 = n1 at *
      go_wp2_with fail
      have wb := Fp.within_bounds n1 0 3 (by omega)
      refine (Fp.within_any n1 0 3 (by omega) (by omega) (by omega) _).mono ?_; rintro e Wx ⟨rfl, rfl⟩
      generalize Fp.withinI n1 0 3 = h at *
      have h1 : 0 ≤ h := wb.1
      have h2 : h ≤ 3 := wb.2
      have hlet := let_of h h1 (by omega)
      clear wb
      have P2 : PA w (wr.alloc (Obj.cells #[Value.int IntKind.u8 (97 + h)] 5)) t L d q m K R par l a (2 * j) := by
        obtain ⟨st, x1, x2, S, x3⟩ := P
        exact ⟨st, x1, x2, S.below ((Below.refl _ _).alloc (Nat.le_refl _) _), x3⟩
      have c2 : (wr.alloc (Obj.cells #[Value.int IntKind.u8 (97 + h)] 5)).cell? ⟨t, 1, none⟩ = some (.pointer (some ⟨L.v, 0, none⟩)) := by obtain ⟨st, _, _, S, _⟩ := P2; exact S.cell
      go_wp2_with fail
      clear P c6 y0 bw
      generalize wr.alloc (Obj.cells #[Value.int IntKind.u8 (97 + h)] 5) = W4 at *
      generalize (⟨#[UInt8.ofNat (97 + h).toNat]⟩ : ByteArray) = s at *
      refine (pa_find hM P2 (by omega) hlet).mono ?_; rintro e W5 ⟨fo, y, rfl, ⟨f1, f2⟩, P5⟩
      have c5 := P5.cell
      have hs1 : (s.size : Int) ≤ 1 := by have := hlet.size; omega
      clear P2 c2
      go_wp2_with fail
      have hq : (Pp ++ s).data.toList = l ++ 47 :: s.data.toList := by rw [ByteArray.data_append, Array.toList_append, hPl]; simp
      have hqd : ((Pp ++ s) ++ ⟨#[47, 46]⟩ : ByteArray).data.toList = (l ++ 47 :: s.data.toList) ++ [47, 46] := by rw [ByteArray.data_append, Array.toList_append, hq]
      have hqe : ((Pp ++ s) ++ ⟨#[47, 46, 46]⟩ : ByteArray).data.toList = (l ++ 47 :: s.data.toList) ++ [47, 46, 46] := by rw [ByteArray.data_append, Array.toList_append, hq]
      have hqn : ((Pp ++ s) ++ ⟨#[47]⟩ : ByteArray) = bs ((l ++ 47 :: s.data.toList) ++ [47]) := by
        apply ByteArray.ext
        rw [← Array.toList_inj, ByteArray.data_append, Array.toList_append, hq, list_bs]
      have hqs : ((Pp ++ s).size : Int) ≤ 14 := by rw [ByteArray.size_append]; omega
      generalize (Pp ++ s : ByteArray) = Q at *
      have b1 := fun {W'} (P : PS w W' t L d q m K R par l a (2 * j) s fo y) => ps_walk hM P 2 Q hq
      have b2 := fun {W'} (P : PS w W' t L d q m K R par l a (2 * j) s fo y) => ps_par hM P 2 Q hq
      have b3 := fun {W'} (P : PS w W' t L d q m K R par l a (2 * j) s fo y) => ps_walks hM P
      have b4 := fun {W'} (P : PS w W' t L d q m K R par l a (2 * j) s fo y) => ps_is P a
      have b5 := fun {W'} (P : PS w W' t L d q m K R par l a (2 * j) s fo y) => ps_dot hM P 1 _ hqd
      have b6 := fun {W'} (P : PS w W' t L d q m K R par l a (2 * j) s fo y) => ps_dots hM P 1 _ hqe
      have b7 := fun {W'} (P : PS w W' t L d q m K R par l a (2 * j) s fo y) => ps_is P y
      have hN : fo = true → ∀ W', PS w W' t L d q m K R par l a (2 * j) s fo y → PA w W' t L d q m K R par (l ++ 47 :: s.data.toList) y (2 * (j + 1)) := by
        rintro rfl W' P; exact P.next
      have HN := Lib.hid hN
      have HQ := Lib.hid hqn
      clear hq hqd hqe hqn hPl hN
      have hcase : (fo = false ∧ y = 0 ∧ isD m K a = true) ∨ (fo = false ∧ y = 0 ∧ isD m K a = false) ∨ (fo = true ∧ isD m K a = true ∧ isD m K y = true) ∨ (fo = true ∧ isD m K a = true ∧ isD m K y = false) := by
        cases fo
        · rw [f2 rfl]; cases isD m K a <;> simp
        · rw [f1 rfl]; cases isD m K y <;> simp
      clear f1 f2
      rcases hcase with ⟨rfl, rfl, hA⟩ | ⟨rfl, rfl, hA⟩ | ⟨rfl, hA, hY⟩ | ⟨rfl, hA, hY⟩
      case' inl =>
        simp only [hA, Bool.false_and, Bool.false_eq_true, if_false, if_true] at b1 b2 b3 b4 b5 b6 b7
      case' inr.inl =>
        simp only [hA, Bool.false_and, Bool.false_eq_true, if_false] at b1 b2 b3 b4 b5 b6 b7
      case' inr.inr.inl =>
        simp only [hA, hY, Bool.true_and, if_true] at b1 b2 b3 b4 b5 b6 b7
      case' inr.inr.inr =>
        simp only [hA, hY, Bool.true_and, Bool.false_eq_true, if_false, if_true] at b1 b2 b3 b4 b5 b6 b7
      all_goals
        clear hA
        refine (b1 P5).mono ?_; rintro e W6 ⟨rfl, P6⟩
        have c6 := P6.cell
        clear P5 c5 b1
        go_wp2_with fail
        refine (b2 P6).mono ?_; rintro e W7 ⟨rfl, P7⟩
        have c7 := P7.cell
        clear P6 c6 b2
        go_wp2_with fail
        refine (b3 P7).mono ?_; rintro e W8 ⟨rfl, P8⟩
        have c8 := P8.cell
        clear P7 c7 b3
        go_wp2_with fail
        refine (b4 P8).mono ?_; rintro e W9 ⟨rfl, P9⟩
        have c9 := P9.cell
        clear P8 c8 b4
        go_wp2_with fail
        refine (b5 P9).mono ?_; rintro e Wa ⟨rfl, Pa⟩
        have ca := Pa.cell
        clear P9 c9 b5
        go_wp2_with fail
        refine (b6 Pa).mono ?_; rintro e Wb ⟨rfl, Pb⟩
        have cb := Pb.cell
        clear Pa ca b6
        go_wp2_with fail
      · refine (b7 Pb).mono ?_; rintro e Wc ⟨rfl, Pc⟩
        clear Pb cb b7
        go_wp2_with fail
        exact ⟨⟨j + 1, _, y, by omega, by rw [HQ.out], rfl, by go_num, HN.out (by first | rfl | trivial) _ Pc⟩, by simp [intOf]; omega⟩
      · refine (b7 Pb).mono ?_; rintro e Wc ⟨rfl, Pc⟩
        clear Pb cb b7
        go_wp2_with fail
        exact ⟨⟨j + 1, _, y, by omega, by rw [HQ.out], rfl, by go_num, HN.out (by first | rfl | trivial) _ Pc⟩, by simp [intOf]; omega⟩
      · have bb := Pb.b
        clear Pb cb b7
        refine (pathRuns_any _ (hM.below (Nat.le_refl _) bb)).mono ?_; rintro e Wc ⟨rfl, bc⟩
        go_wp2_with fail
        go_ret
        exact ⟨rfl, bb.trans (bc.mono bb.size)⟩
      · have bb := Pb.b
        clear Pb cb b7
        refine (pathRuns_any _ (hM.below (Nat.le_refl _) bb)).mono ?_; rintro e Wc ⟨rfl, bc⟩
        go_wp2_with fail
        go_ret
        exact ⟨rfl, bb.trans (bc.mono bb.size)⟩
    · clear w1
      rcases (show (len1 ≤ j ∧ (len1 : Int) ≤ j) ∨ (j < len1 ∧ (j : Int) < len1 ∧ (6 : Int) ≤ j) by omega) with ⟨l1, l2⟩ | ⟨l1, l2, l3⟩
      all_goals
        go_wp2_with fail
        refine (pathRuns_any _ (hM.below (Nat.le_refl _) bw)).mono ?_; rintro e Wc ⟨rfl, bc⟩
        go_wp2_with fail
        go_ret
        exact ⟨rfl, bw.trans (bc.mono bw.size)⟩
end Go.Proofs.YtcefigpdodlonaaDoor.St
