/- The walk of cloisterlaw10.InodeBytes. No condition but those written in the statement. -/
import Derived.Test.YtamkkgmflconaaaInoP
import Derived.Test.YtamkkgmflconaaaInoRuns
import Derived.Test.YtamkkgmflconaaaTwo
import Derived.Test.YtamkkgmflconaaaText
import Derived.Test.YtamkkgmflconaaaLawKit
import Derived.Test.YtamkkgmflconaaaWithin
import Derived.StillTailTactics
namespace Go.Proofs.Ytamkkgmflconaaa.St
open Go.RowKit
set_option linter.unusedVariables false

def otherB : ByteArray := ⟨#[111, 116, 104, 101, 114]⟩
def bs2 : VSt := iAlloc rs1 2
def bs3 : VSt := iWrite bs2 2 0 otherB

theorem ibytes1 (L : Lay) (w : World) (hV : ViewAt w L rs1) : Calls Try.prog 15 #[.pointer (some ⟨L.v, 0, none⟩), .int .i64 2] w fun e w' => e = .returned (.tuple #[.int .i64 2, .bool true]) ∧ ViewAt w' L bs2 ∧ Turn (fun k => k = L.r ∨ k = L.m) w w' := by
  have h := ialloc_any L rs1 2 w hV
  rw [show iGot rs1 = 2 by kernel_rfl, show decide (iFree rs1 < 16) = true by kernel_rfl] at h
  exact h
theorem ibytes2 (L : Lay) (w : World) (hV : ViewAt w L bs2) : Calls Try.prog 16 #[.pointer (some ⟨L.v, 0, none⟩), .int .i64 2, .int .i64 0, .string ⟨#[111, 116, 104, 101, 114]⟩] w fun e w' => e = .returned (.int .i64 5) ∧ ViewAt w' L bs3 ∧ Turn (fun k => k = L.r ∨ k = L.m) w w' := by
  have h := iwrite_any L bs2 2 0 otherB (by rw [show (iVal bs2 2).s.size = 0 by kernel_rfl]; decide) (by decide) w hV
  rw [show iWrote bs2 2 0 otherB = 5 by kernel_rfl] at h
  exact h
theorem bs3_one : Holds bs3 1 2 0 0 ByteArray.empty := ⟨by kernel_rfl, by kernel_rfl, by kernel_rfl, by kernel_rfl⟩
theorem bs3_two : Holds bs3 2 2 0 0 otherB := ⟨by kernel_rfl, by kernel_rfl, by kernel_rfl, by kernel_rfl⟩

/-- The two stores stand while only the view's maps turn. -/
theorem two_turn {W W' : World} {t s v d q : Nat} {L : Lay} {st : VSt} (hT : TwoAt W t s v d q) (hV : ViewAt W L st) (h : Turn (fun k => k = L.r ∨ k = L.m) W W') : TwoAt W' t s v d q := by
  obtain ⟨_, _, hr, _⟩ := hV.cr
  obtain ⟨_, _, hm, _⟩ := hV.cm
  have n1 := cells_ne_map hT hr
  have n2 := cells_ne_map hT hm
  exact blk_of_turn h hT (by omega)

attribute [local irreducible] Int.lt Int.le
set_option maxRecDepth 100000 in
set_option maxHeartbeats 4000000 in
theorem inodeBytes_walk (a0 : Option Addr) (len0 cap0 : Nat) (z0 : Nat → Nat → Int) (a1 : Int) (a2 : Int) (w : World) (w0 : IsRows 5 w a0 len0 cap0 z0) (w1 : (Lit.int .i64 a1).wf = true) (w2 : (Lit.int .i64 a2).wf = true) :
    Calls Try.prog 4 #[.slice a0 len0 cap0, .int .i64 a1, .int .i64 a2] w fun e w' => e = .returned (.bool true) ∧ Below w.heap.size w w' := by
  go_enter Try.func4, Try.ntmps4
  go_wp2_with fail
  refine (tnew_nil _).mono ?_; rintro e W1 ⟨t, d, q, L, rfl, hT1, hv1, hq1, b1, gt, gd, gv, gs, gl, gr, gm⟩
  have c1 := cell_of_row W1 t 1 _ _ _ hT1
  simp at c1
  go_wp2_with fail
  refine (irun1 L _ hv1).mono ?_; rintro e W2 ⟨rfl, hv2, t2⟩
  have hT2 := two_turn hT1 hv1 t2
  have b2 := b1.trans ((t2.below (B := w.heap.size) b1.size (fun i q => by omega)))
  have c2 := cell_of_row W2 t 1 _ _ _ hT2
  simp at c2
  clear hq1 hv1 hT1 b1 c1 t2
  go_wp2_with fail
  refine (ibytes1 L _ hv2).mono ?_; rintro e W3 ⟨rfl, hv3, t3⟩
  have hT3 := two_turn hT2 hv2 t3
  have b3 := b2.trans ((t3.below (B := w.heap.size) b2.size (fun i q => by omega)))
  have c3 := cell_of_row W3 t 1 _ _ _ hT3
  simp at c3
  clear hv2 hT2 b2 c2 t3
  go_wp2_with fail
  refine (ibytes2 L _ hv3).mono ?_; rintro e W4 ⟨rfl, hv4, t4⟩
  have hT4 := two_turn hT3 hv3 t4
  have b4 := b3.trans ((t4.below (B := w.heap.size) b3.size (fun i q => by omega)))
  clear hv3 hT3 b3 c3 t4
  go_wp2_with fail
  go_loopw [12, 13] (fun o k wr => ∃ (own : ByteArray) (j : Nat) (st : VSt), o = .string own ∧ k = .int .i64 (j : Int) ∧ j ≤ 15 ∧ (own.size : Int) ≤ 128 ∧ Holds st 1 2 0 0 own ∧ Holds st 2 2 0 0 otherB ∧ ViewAt wr L st ∧ TwoAt wr t L.s L.v d q ∧ Below w.heap.size w wr) (fun _ k _ => 15 - (intOf k).toNat)
  case atStart => exact ⟨ByteArray.empty, 0, bs3, rfl, rfl, by omega, by decide, bs3_one, bs3_two, hv4, hT4, b4⟩
  case round =>
    clear hv4 hT4 b4
    obtain ⟨own, j, st, rfl, rfl, j1, ho, h1, h2, hv5, hT5, b5⟩ := hrel
    by_cases hlt : j < len0 ∧ j < 15
    · rcases w0 with ⟨_, q2, _⟩ | ⟨x, rfl, x1, x2, hx⟩
      · omega
      have hz := (rows_field hx b5 j hlt.1).1
      have z2 := hz 2 (by omega) (by omega)
      have z3 := hz 3 (by omega) (by omega)
      have z4 := hz 4 (by omega) (by omega)
      have l1 : (j : Int) < len0 := by omega
      have l2 : (j : Int) < 15 := by omega
      have c5 := cell_of_row wr t 1 _ _ _ hT5
      simp at c5
      clear hx hz w1 w2
      go_wp2_with fail
      have wb := Fp.within_bounds (z0 j 2) 0 ((own.size : Int) + 3) (by omega)
      refine (Fp.within_any (z0 j 2) 0 ((own.size : Int) + 3) (by omega) (by omega) (by omega) _).mono ?_; rintro e W5 ⟨rfl, rfl⟩
      generalize Fp.withinI (z0 j 2) 0 ((own.size : Int) + 3) = at0 at *
      have wc := Fp.within_bounds (z0 j 4) 0 50 (by omega)
      go_wp2_with fail
      refine wp_region_still_tail 11 (by kernel_rfl) (by kernel_rfl) ?_
      simp only [List.take_succ_cons, List.take_zero, List.drop_succ_cons, List.drop_zero]
      repeat still_step
      still_call ((Fp.within_any (z0 j 4) 0 50 (by omega) (by omega) (by omega) _).mono fun e w' ⟨p, q⟩ => ⟨p, q.symm⟩)
      refine wpStill_nil ?_
      change wpList _ _ _ _ _ wr.drew
      have hv6 := hv5.drew
      have hT6 : TwoAt wr.drew t L.s L.v d q := (blk_drew _ _).trans hT5
      have b6 : Below w.heap.size w wr.drew := b5.drew
      clear c5 z2 z3 z4 hv5 hT5 b5
      generalize wr.drew = W6 at *
      generalize Fp.withinI (z0 j 4) 0 50 = n0 at *
      go_wp2_with fail
      refine (text_any (z0 j 3) n0 (by omega) (by omega) _).mono ?_; rintro e W7 ⟨D0, rfl, hD0, t7⟩
      have hDs : (D0.size : Int) ≤ 50 := by omega
      clear hD0 wc
      have hv7 := hv6.below t7
      have hT7 : TwoAt W7 t L.s L.v d q := blk_below t7 hT6 (blk_lt hT6)
      have b7 := b6.trans (t7.mono b6.size)
      have c7 := cell_of_row W7 t 1 _ _ _ hT7
      simp at c7
      clear t7 hv6 hT6 b6
      have hval1 := holds_val h1 (by decide) (by omega) (by omega)
      have hs1 : ((iVal st 1).s.size : Int) ≤ 140737488351232 := by rw [hval1.1]; omega
      go_wp2_with fail
      refine (iwrite_any L st 1 at0 D0 hs1 (by omega) _ hv7).mono ?_; rintro e W8 ⟨rfl, hv8, t8⟩
      have hT8 := two_turn hT7 hv7 t8
      have b8 := b7.trans (t8.below (B := w.heap.size) b7.size (fun i q => by omega))
      have c8 := cell_of_row W8 t 1 _ _ _ hT8
      simp at c8
      clear c7 t8 hv7 hT7 b7 hval1 hs1
      have k2 := holds_write_other h2 1 at0 D0 (by decide)
      by_cases hat : at0 ≤ (own.size : Int)
      · obtain ⟨k1, kw⟩ := holds_write h1 (by decide) (by decide) (by decide) at0 D0 (by omega) (by omega) hat
        have komax := over_max own D0 at0 (by omega) hat (by omega) ho
        have kps := part_size D0 at0 (by omega)
        rw [kw]
        generalize iWrite st 1 at0 D0 = st' at *
        clear h1 h2 kw
        obtain ⟨E, hE⟩ : ∃ E, E = iPart D0 at0 := ⟨_, rfl⟩
        rw [← hE] at k1 komax kps ⊢
        have hn1 : decide ((own.size : Int) < at0) = false := decide_eq_false (by omega)
        have hE0 : (0 : Int) ≤ E.size := by omega
        have hE1 : (E.size : Int) ≤ 128 - at0 := by omega
        have c0 : (D0.size : Int) ≤ 128 - at0 ∨ 128 - at0 < (D0.size : Int) := by omega
        clear kps
        obtain ⟨O, hO⟩ : ∃ O, O = iOver own at0 E := ⟨_, rfl⟩
        rw [← hO] at k1 komax
        have hOs : (O.size : Int) = max (own.size : Int) (at0 + E.size) := by rw [hO]; exact over_size own E at0 (by omega) hat
        have g0 : 0 ≤ at0 := wb.1
        have HO := Lib.hid hO
        clear hO hOs
        rcases c0 with c1 | c1
        case' inl =>
          obtain rfl : E = D0 := by rw [hE, part_all D0 at0 c1]
          clear hE
          go_wp2_with fail
        case' inr =>
          have eD : D0.extract 0 (128 - at0).toNat = E := by rw [hE, part_some D0 at0 c1]
          have ED := Lib.hid eD
          clear hE eD
          go_wp2_with fail
          rw [ED.out]
          clear ED
        all_goals
          have hmm : at0 + (E.size : Int) < (own.size : Int) ∨ (own.size : Int) ≤ at0 + (E.size : Int) := by omega
          rcases hmm with hmid | hmid
          case' inl => have eO := over_mid own E at0 hmid
          case' inr => have eO := over_end own E at0 hmid
          all_goals
            rw [← HO.out] at eO
            have EO := Lib.hid eO
            clear eO
            go_quiet (fail)
            rw [← EO.out]
            clear EO hmid
            have hv9 := hv8.drewN nq
            have hT9 : TwoAt (W8.drewN nq) t L.s L.v d q := (blk_drewN _ _ _).trans hT8
            have b9 := below_drewN b8 nq
            clear hv8 hT8 b8 c8
            generalize W8.drewN nq = W9 at *
            have c9 := cell_of_row W9 t 1 _ _ _ hT9
            simp at c9
            go_wp2_with fail
            refine (hsize L k1 (by decide) (by decide) (by decide) _ hv9).mono ?_; rintro e W10 ⟨rfl, hv10, t10⟩
            have t10' : Turn (fun k => k = L.r ∨ k = L.m) W9 W10 := t10.mono fun _ _ => Or.inl
            have hT10 := two_turn hT9 hv9 t10'
            have b10 := b9.trans (t10'.below (B := w.heap.size) b9.size (fun i q => by omega))
            clear t10 t10' hv9 hT9 b9 c9
            go_wp2_with fail
            refine ⟨⟨O, j + 1, _, rfl, by go_num, by omega, komax, holds_saw k1 1, holds_saw k2 1, hv10, hT10, b10⟩, by simp [intOf]; omega⟩
      · obtain ⟨k1, kw⟩ := holds_write_no h1 (by decide) (by decide) (by decide) at0 D0 (by omega)
        rw [kw]
        generalize iWrite st 1 at0 D0 = st' at *
        clear h1 h2 kw
        have hn1 : decide ((own.size : Int) < at0) = true := decide_eq_true (by omega)
        go_wp2_with fail
        refine ⟨⟨own, j + 1, _, rfl, by go_num, by omega, ho, k1, k2, hv8, hT8, b8⟩, by simp [intOf]; omega⟩
    · clear w0
      have c5 := cell_of_row wr t 1 _ _ _ hT5
      simp at c5
      have wa := Fp.within_bounds a1 0 133 (by omega)
      have wc := Fp.within_bounds a2 0 60 (by omega)
      rcases (show (len0 ≤ j ∧ (len0 : Int) ≤ j) ∨ (j < len0 ∧ (j : Int) < len0 ∧ (15 : Int) ≤ j) by omega) with ⟨l1, l2⟩ | ⟨l1, l2, l3⟩
      all_goals
        go_wp2_with fail
        refine (Fp.within_any a1 0 133 (by omega) (by omega) (by omega) _).mono ?_; rintro e W5 ⟨rfl, rfl⟩
        go_wp2_with fail
        refine (Fp.within_any a2 0 60 (by omega) (by omega) (by omega) _).mono ?_; rintro e W5 ⟨rfl, rfl⟩
        generalize Fp.withinI a1 0 133 = off at *
        generalize Fp.withinI a2 0 60 = n at *
        obtain ⟨wa1, wa2⟩ := wa
        obtain ⟨wc1, wc2⟩ := wc
        have hr : (off < (own.size : Int) ∧ off + n < (own.size : Int) ∧ readB own off n = own.extract off.toNat (off + n).toNat) ∨ (off < (own.size : Int) ∧ (own.size : Int) ≤ off + n ∧ readB own off n = own.extract off.toNat own.size) ∨ ((own.size : Int) ≤ off ∧ True ∧ readB own off n = ⟨#[]⟩) := by
          by_cases q1 : off < (own.size : Int)
          · by_cases q2 : off + n < (own.size : Int)
            · exact Or.inl ⟨q1, q2, readB_mid own off n wa1 q1 wc1 q2⟩
            · exact Or.inr (Or.inl ⟨q1, by omega, readB_end own off n wa1 q1 (by omega)⟩)
          · exact Or.inr (Or.inr ⟨by omega, trivial, readB_out own off n (by omega)⟩)
        have hread1 := fun w hV => hread L h1 (by decide) (by decide) (by decide) (by omega) off n w hV
        rcases hr with ⟨q1, q2, hr⟩ | ⟨q1, q2, hr⟩ | ⟨q1, q2, hr⟩
        case' inl => have hsl := fun (W : World) => run_slice_string (P := Try.prog) W 9 own .i64 .i64 off (off + n) string_type wa1 (by omega) (by omega)
        case' inr.inl =>
          have hsl := fun (W : World) => run_slice_string (P := Try.prog) W 9 own .i64 .i64 off (own.size : Int) string_type wa1 (by omega) (by omega)
          rw [Int.toNat_natCast] at hsl
        all_goals
          rw [hr] at hread1
          have Hread1 := Lib.hid hread1
          clear hread1 hr
          go_wp2_with fail
          refine (Hread1.out _ hv5).mono ?_; rintro e W6 ⟨rfl, hv6, t6⟩
          have t6' : Turn (fun k => k = L.r ∨ k = L.m) wr W6 := t6.mono fun _ _ => Or.inl
          have hT6 := two_turn hT5 hv5 t6'
          have b6 := b5.trans (t6'.below (B := w.heap.size) b5.size (fun i q => by omega))
          have c6 := cell_of_row W6 t 1 _ _ _ hT6
          simp at c6
          have h61 := holds_saw h1 1
          have h62 := holds_saw h2 1
          clear t6 t6' Hread1 hv5 hT5 b5 c5
          go_wp2_with fail
          have hread2 := hread L h61 (by decide) (by decide) (by decide) (by omega) 0 128 W6 hv6
          rw [readB_all own 128 ho] at hread2
          refine hread2.mono ?_; rintro e W7 ⟨rfl, hv7, t7⟩
          have t7' : Turn (fun k => k = L.r ∨ k = L.m) W6 W7 := t7.mono fun _ _ => Or.inl
          have hT7 := two_turn hT6 hv6 t7'
          have b7 := b6.trans (t7'.below (B := w.heap.size) b6.size (fun i q => by omega))
          have c7 := cell_of_row W7 t 1 _ _ _ hT7
          simp at c7
          have h72 := holds_saw h62 1
          clear t7 t7' hread2 hv6 hT6 b6 c6 h61 h62
          go_wp2_with fail
          have hread3 := hread L h72 (by decide) (by decide) (by decide) (by decide) 0 99 W7 hv7
          rw [show readB otherB 0 99 = ⟨#[111, 116, 104, 101, 114]⟩ by kernel_rfl] at hread3
          refine hread3.mono ?_; rintro e W8 ⟨rfl, hv8, t8⟩
          have t8' : Turn (fun k => k = L.r ∨ k = L.m) W7 W8 := t8.mono fun _ _ => Or.inl
          have b8 := b7.trans (t8'.below (B := w.heap.size) b7.size (fun i q => by omega))
          clear t8 t8' hread3 hv7 hT7 b7 c7 h72
          go_wp2_with fail
          refine (iruns_any _).mono ?_; rintro e W9 ⟨rfl, t9⟩
          go_wp2_with fail
          go_ret
          exact ⟨rfl, b8.trans (t9.mono b8.size)⟩
end Go.Proofs.Ytamkkgmflconaaa.St
