/- FileShares: the walk. No condition but those written in each statement. -/
import Derived.Test.YtdlcbclfniahoaaFilT
import Derived.Test.YtdlcbclfniahoaaLawKit
import Derived.Deep.Cut
namespace Go.Proofs.Ytdlcbclfniahoaa.St
open Go.RowKit
set_option linter.unusedVariables false

theorem readB_le (s : ByteArray) (off n : Int) (h0 : 0 ≤ off) (h : off ≤ (s.size : Int)) : off + (readB s off n).size ≤ s.size := by
  unfold readB
  split
  · exact Int.le_trans (by show off + ((0 : Nat) : Int) ≤ off; omega) h
  · rw [ByteArray.size_extract]; omega
theorem sfile_type : Try.prog.underlying 9 = some .string := Try.underlying9

attribute [local irreducible] Int.lt Int.le
set_option maxRecDepth 100000 in
set_option maxHeartbeats 16000000 in
theorem fileShares_walk (a0 : Option Addr) (len0 cap0 : Nat) (z0 : Nat → Nat → Int) (a1 : Int) (w : World) (w0 : IsRows 5 w a0 len0 cap0 z0) (w1 : (Lit.int .i64 a1).wf = true) :
    Calls Try.prog 4 #[.slice a0 len0 cap0, .int .i64 a1] w fun e w' => e = .returned (.bool true) ∧ Below w.heap.size w w' := by
  have m0 : len0 ≤ 9223372036854775807 := by
    rcases w0 with ⟨_, h, _⟩ | ⟨_, _, h1, h2, _⟩
    · omega
    · unfold maxLen at h2; omega
  have nb := Fp.within_bounds a1 0 4 (by omega)
  obtain ⟨n, hn⟩ : ∃ n : Nat, Fp.withinI a1 0 4 = (n : Int) := ⟨(Fp.withinI a1 0 4).toNat, by omega⟩
  rw [hn] at nb
  have Wn := fun W => Fp.within_any a1 0 4 (by omega) (by omega) (by omega) W
  rw [hn] at Wn
  have Hn := Lib.hid Wn
  clear hn Wn w1
  go_enter Try.func4, Try.ntmps4
  go_wp2_with fail
  refine (s_new _).mono ?_; rintro e W1 ⟨t, d, q, L, rfl, S1⟩
  have c1 := S1.cell
  go_wp2_with fail
  refine (frun1 S1).mono ?_; rintro e W2 ⟨rfl, S2⟩
  clear S1 c1
  go_wp2_with fail
  refine (g_change S2).mono ?_; rintro e W3 ⟨rfl, S3⟩
  clear S2
  go_wp2_with fail
  refine (g_open1 S3).mono ?_; rintro e W4 ⟨rfl, S4⟩
  clear S3
  go_wp2_with fail
  refine (g_open2 S4).mono ?_; rintro e W5 ⟨rfl, S5⟩
  clear S4
  go_wp2_with fail
  refine (Hn.out _).mono ?_; rintro e W6 ⟨rfl, rfl⟩
  clear Hn
  go_wp2_with fail
  have hst : ∃ st, FS st ByteArray.empty 0 0 (0 + 1) ∧ Std w t L d q st W5 := ⟨_, fs_start, S5⟩
  clear S5
  go_loopw [14] (fun i wr => ∃ k : Nat, k ≤ n ∧ i = .int .i64 (k : Int) ∧ ∃ st, FS st ByteArray.empty 0 0 (k + 1) ∧ Std w t L d q st wr) (fun i _ => n - (intOf i).toNat)
  case atStart => exact ⟨0, Nat.zero_le _, rfl, hst⟩
  case round =>
    clear hst
    obtain ⟨k, hk, rfl, st, H, S⟩ := hrel
    have k0 : (0 : Int) ≤ (k : Int) := by omega
    by_cases hlt : k < n
    · have l1 : (k : Int) < (n : Int) := by omega
      go_wp2_with fail
      refine (g_dup S H (by omega)).mono ?_; rintro e W6 ⟨rfl, st', H', S'⟩
      clear S H
      go_wp2_with fail
      exact ⟨⟨k + 1, by omega, by go_num, st', H', S'⟩, by simp [intOf]; omega⟩
    · obtain rfl : k = n := by omega
      have HH := Lib.hid (And.intro H S)
      clear H S hlt hk
      go_wp2_with fail
      obtain ⟨H, S⟩ := HH.out
      clear HH
      go_loopw [15, 16, 17, 18] (fun o av bv i wr => ∃ j : Nat, j ≤ 20 ∧ i = .int .i64 (j : Int) ∧ ∃ (own : ByteArray) (a b : Nat), o = .string own ∧ av = .int .i64 (a : Int) ∧ bv = .int .i64 (b : Int) ∧ own.size ≤ 128 ∧ a ≤ own.size ∧ b ≤ own.size ∧ ∃ st, FS st own a b (k + 1) ∧ Std w t L d q st wr) (fun _ _ _ i _ => 20 - (intOf i).toNat)
      case atStart => exact ⟨0, Nat.zero_le _, rfl, ByteArray.empty, 0, 0, rfl, rfl, rfl, by decide, by decide, by decide, st, H, S⟩
      case round =>
        clear H S
        obtain ⟨j, hj, rfl, own, a, b, rfl, rfl, rfl, ho, ha, hb, st, H, S⟩ := hrel
        have j0 : (0 : Int) ≤ (j : Int) := by omega
        have a0' : (0 : Int) ≤ (a : Int) := by omega
        have b0' : (0 : Int) ≤ (b : Int) := by omega
        have os0 : (0 : Int) ≤ (own.size : Int) := by omega
        have os1 : (own.size : Int) ≤ 128 := by omega
        have aos : (a : Int) ≤ (own.size : Int) := by omega
        have bos : (b : Int) ≤ (own.size : Int) := by omega
        by_cases hlt : j < len0 ∧ j < 20
        · obtain ⟨q1, q2⟩ := hlt
          have l1 : (j : Int) < (len0 : Int) := by omega
          have l2 : (j : Int) < 20 := by omega
          rcases w0 with ⟨_, q3, _⟩ | ⟨x, rfl, x1, x2, hx⟩
          · omega
          have hz := rows_field hx S.b j q1
          have y0 := hz.2 (by omega)
          have y2 := hz.1 2 (by omega) (by omega)
          have HH := Lib.hid (And.intro H S)
          clear hx hz H S
          generalize z0 j 0 = kd at *
          generalize z0 j 2 = aa at *
          have mb := Fp.within_bounds aa 1 20 (by omega)
          have Hm := Lib.hid (fun W => Fp.within_any aa 1 20 (by omega) (by omega) (by omega) W)
          go_wp2_with fail
          refine (Hm.out _).mono ?_; rintro e W6 ⟨rfl, rfl⟩
          clear Hm y2
          generalize Fp.withinI aa 1 20 = m at *
          rcases (show (kd = 5) ∨ (¬ kd = 5 ∧ kd = 4) ∨ (¬ kd = 5 ∧ ¬ kd = 4) by omega) with rfl | ⟨n1, rfl⟩ | ⟨n1, n2⟩
          · go_upto_region 28 with fail
            clear y0
            go_wp2_with fail
            refine (text_any (j : Int) m (by omega) (by omega) _).mono ?_; rintro e W7 ⟨D, rfl, hD, t7⟩
            obtain ⟨H, S⟩ := HH.out
            have S7 := S.below t7
            have Hw := Lib.hid (g_write S7 H ha ho D (by omega) (by omega))
            have hps := part_size D (a : Int) (by omega)
            obtain ⟨E, hE⟩ : ∃ E, E = iPart D a := ⟨_, rfl⟩
            rw [← hE] at Hw hps
            have hE0 : (0 : Int) ≤ (E.size : Int) := by omega
            have Hps := Lib.hid hps
            have HD := Lib.hid hD
            clear HH H S S7 t7 hps hD
            go_wp2_with fail
            have hps := Hps.out
            have hD := HD.out
            clear Hps HD
            refine Hw.out.mono ?_
            rintro e W8 (⟨p0, rfl, st', H', S'⟩ | ⟨p0, rfl, st', H', S'⟩)
            · have HH := Lib.hid (And.intro H' S')
              clear H' S' Hw
              have c0 : m ≤ 128 - (a : Int) ∨ 128 - (a : Int) < m := by omega
              have e0 : ¬ (E.size : Int) = 0 := by omega
              have e1 : ((E.size : Int) == 0) = false := beq_eq_false_iff_ne.2 e0
              have e5 : (a : Int) + (E.size : Int) ≤ 256 := by omega
              rcases c0 with c1 | c1
              case' inl =>
                obtain rfl : E = D := by rw [hE, part_all D (a : Int) (by omega)]
                have e2 : m = (E.size : Int) := by omega
                subst e2
                clear hE hD hps
                go_upto_region 36 with fail
              case' inr =>
                have e2 : 128 - (a : Int) = (E.size : Int) := by omega
                have eD : D.extract 0 E.size = E := by
                  have h1 := part_some D (a : Int) (by omega)
                  rw [e2, Int.toNat_natCast, ← hE] at h1
                  exact h1.symm
                have ED := Lib.hid eD
                rw [e2] at c1
                have hDs : (D.size : Int) ≤ 20 := by omega
                have hED : E.size ≤ D.size := by omega
                have hED2 : (E.size : Int) ≤ (D.size : Int) := by omega
                have hDs2 : D.size ≤ 20 := by omega
                have hEs2 : E.size ≤ 20 := by omega
                clear hD
                clear hE eD hps
                go_upto_region 36 with fail
              all_goals
                have hmm : a + E.size < own.size ∨ own.size ≤ a + E.size := by omega
                rcases hmm with hmid | hmid
                all_goals (try (exfalso; omega))
                all_goals
                  first
                  | (have hmi : (a : Int) + (E.size : Int) < (own.size : Int) := by omega
                     have eO := over_mid own E (a : Int) hmi
                     rw [Int.toNat_natCast, show ((a : Int) + (E.size : Int)).toNat = a + E.size by omega] at eO
                     have EO := Lib.hid eO
                     clear eO)
                  | (have hmi : (own.size : Int) ≤ (a : Int) + (E.size : Int) := by omega
                     have eO := over_end own E (a : Int) hmi
                     rw [Int.toNat_natCast] at eO
                     have EO := Lib.hid eO
                     clear eO)
                  go_quiet (fail)
                  try rw [ED.out]
                  rw [← EO.out]
                  have hov := over_size own E (a : Int) (by omega) (by omega)
                  generalize iOver own (a : Int) E = O at *
                  have HO := Lib.hid hov
                  obtain ⟨H', S'⟩ := HH.out
                  have S9 := S'.drewN nq
                  clear EO HH hov S'
                  generalize World.drewN _ nq = W9 at *
                  have HH := Lib.hid (And.intro H' S9)
                  clear H' S9
                  go_wp2_with fail
                  exact ⟨⟨j + 1, by omega, by go_num, O, a + E.size, b, rfl, by simp, rfl, by have := HO.out; omega, by have := HO.out; omega, by have := HO.out; omega, st', HH.out.1, HH.out.2⟩, by simp [intOf]; omega⟩
            · have HH := Lib.hid (And.intro H' S')
              clear H' S' Hw
              obtain rfl : a = 128 := by omega
              have eS : own.size = 128 := by omega
              have eO : iOver own ((128 : Nat) : Int) E = own := by rw [← eS]; exact over_none own E p0
              rw [eO] at HH
              have ES := Lib.hid eS
              have c1 : (0 : Int) < m := by omega
              clear hE hps eO eS a0' aos ha
              go_wp2_with fail
              exact ⟨⟨j + 1, by omega, by go_num, own, 128, b, rfl, rfl, rfl, ho, by have := ES.out; omega, hb, st', HH.out.1, HH.out.2⟩, by simp [intOf]; omega⟩
          · obtain ⟨H, S⟩ := HH.out
            have Hg := Lib.hid (g_read1 S H (by omega) (by omega) m (by omega))
            clear H S
            have Hrd := Hg.out
            have hle := readB_le own (b : Int) m (by omega) (by omega)
            have hr : ((b : Int) < (own.size : Int) ∧ (b : Int) + m < (own.size : Int) ∧ readB own b m = own.extract b ((b : Int) + m).toNat) ∨ ((b : Int) < (own.size : Int) ∧ (own.size : Int) ≤ (b : Int) + m ∧ readB own b m = own.extract b own.size) ∨ ((b : Int) = (own.size : Int) ∧ (own.size : Int) ≤ (b : Int) + m ∧ readB own b m = ByteArray.empty) := by
              by_cases c1 : (b : Int) < (own.size : Int)
              · by_cases c2 : (b : Int) + m < (own.size : Int)
                · exact .inl ⟨c1, c2, by have := readB_mid own (b : Int) m (by omega) c1 (by omega) c2; rw [Int.toNat_natCast] at this; exact this⟩
                · exact .inr (.inl ⟨c1, by omega, by have := readB_end own (b : Int) m (by omega) c1 (by omega); rw [Int.toNat_natCast] at this; exact this⟩)
              · exact .inr (.inr ⟨by omega, by omega, by rw [readB_out own (b : Int) m (by omega)]; rfl⟩)
            have Hle := Lib.hid hle
            clear hle
            rcases hr with ⟨c1, c2, hr⟩ | ⟨c1, c2, hr⟩ | ⟨c1, c2, hr⟩
            case' inl =>
              obtain ⟨X, hX, hX2, hX3⟩ : ∃ X : Nat, X = ((b : Int) + m).toNat ∧ X ≤ own.size ∧ b ≤ X := ⟨_, rfl, by omega, by omega⟩
              rw [← hX] at hr
              have hXm : (b : Int) + m = (X : Int) := by omega
              rw [hXm] at c2
            case' inr.inl => skip
            case' inr.inr => obtain rfl : b = own.size := by omega
            all_goals
              rw [hr] at Hrd Hle
              have Hrd2 := Lib.hid Hrd
              clear hr Hrd HH
              try clear hX
              go_wp2_with fail
              refine Hrd2.out.mono ?_; rintro e W7 ⟨rfl, st', H', S'⟩
              have HH := Lib.hid (And.intro H' S')
              clear H' S' Hrd2
              go_upto_region 43 with fail
              first
              | (generalize own.extract b X = Dd at *
                 have hsx : (b : Int) + (Dd.size : Int) ≤ 128 := by have := Hle.out; omega
                 have hsy : (0 : Int) ≤ (Dd.size : Int) := by omega
                 go_wp2_with fail
                 exact ⟨⟨j + 1, by omega, by go_num, own, a, b + Dd.size, rfl, rfl, by simp, ho, ha, by have := Hle.out; omega, st', HH.out.1, HH.out.2⟩, by simp [intOf]; omega⟩)
              | (generalize own.extract b own.size = Dd at *
                 have hsx : (b : Int) + (Dd.size : Int) ≤ 128 := by have := Hle.out; omega
                 have hsy : (0 : Int) ≤ (Dd.size : Int) := by omega
                 go_wp2_with fail
                 exact ⟨⟨j + 1, by omega, by go_num, own, a, b + Dd.size, rfl, rfl, by simp, ho, ha, by have := Hle.out; omega, st', HH.out.1, HH.out.2⟩, by simp [intOf]; omega⟩)
              | (go_wp2_with fail
                 exact ⟨⟨j + 1, by omega, by go_num, own, a, own.size, rfl, rfl, rfl, ho, ha, Nat.le_refl _, st', HH.out.1, HH.out.2⟩, by simp [intOf]; omega⟩)
          · obtain ⟨H, S⟩ := HH.out
            have Hg := Lib.hid (g_read0 S H (by omega) (by omega) m (by omega))
            clear H S
            have Hrd := Hg.out
            have hle := readB_le own (a : Int) m (by omega) (by omega)
            have hr : ((a : Int) < (own.size : Int) ∧ (a : Int) + m < (own.size : Int) ∧ readB own a m = own.extract a ((a : Int) + m).toNat) ∨ ((a : Int) < (own.size : Int) ∧ (own.size : Int) ≤ (a : Int) + m ∧ readB own a m = own.extract a own.size) ∨ ((a : Int) = (own.size : Int) ∧ (own.size : Int) ≤ (a : Int) + m ∧ readB own a m = ByteArray.empty) := by
              by_cases c1 : (a : Int) < (own.size : Int)
              · by_cases c2 : (a : Int) + m < (own.size : Int)
                · exact .inl ⟨c1, c2, by have := readB_mid own (a : Int) m (by omega) c1 (by omega) c2; rw [Int.toNat_natCast] at this; exact this⟩
                · exact .inr (.inl ⟨c1, by omega, by have := readB_end own (a : Int) m (by omega) c1 (by omega); rw [Int.toNat_natCast] at this; exact this⟩)
              · exact .inr (.inr ⟨by omega, by omega, by rw [readB_out own (a : Int) m (by omega)]; rfl⟩)
            have Hle := Lib.hid hle
            clear hle
            rcases hr with ⟨c1, c2, hr⟩ | ⟨c1, c2, hr⟩ | ⟨c1, c2, hr⟩
            case' inl =>
              obtain ⟨X, hX, hX2, hX3⟩ : ∃ X : Nat, X = ((a : Int) + m).toNat ∧ X ≤ own.size ∧ a ≤ X := ⟨_, rfl, by omega, by omega⟩
              rw [← hX] at hr
              have hXm : (a : Int) + m = (X : Int) := by omega
              rw [hXm] at c2
            case' inr.inl => skip
            case' inr.inr => obtain rfl : a = own.size := by omega
            all_goals
              rw [hr] at Hrd Hle
              have Hrd2 := Lib.hid Hrd
              clear hr Hrd HH
              try clear hX
              go_wp2_with fail
              refine Hrd2.out.mono ?_; rintro e W7 ⟨rfl, st', H', S'⟩
              have HH := Lib.hid (And.intro H' S')
              clear H' S' Hrd2
              go_upto_region 26 with fail
              first
              | (generalize own.extract a X = Dd at *
                 have hsx : (a : Int) + (Dd.size : Int) ≤ 128 := by have := Hle.out; omega
                 have hsy : (0 : Int) ≤ (Dd.size : Int) := by omega
                 go_wp2_with fail
                 exact ⟨⟨j + 1, by omega, by go_num, own, a + Dd.size, b, rfl, by simp, rfl, ho, by have := Hle.out; omega, hb, st', HH.out.1, HH.out.2⟩, by simp [intOf]; omega⟩)
              | (generalize own.extract a own.size = Dd at *
                 have hsx : (a : Int) + (Dd.size : Int) ≤ 128 := by have := Hle.out; omega
                 have hsy : (0 : Int) ≤ (Dd.size : Int) := by omega
                 go_wp2_with fail
                 exact ⟨⟨j + 1, by omega, by go_num, own, a + Dd.size, b, rfl, by simp, rfl, ho, by have := Hle.out; omega, hb, st', HH.out.1, HH.out.2⟩, by simp [intOf]; omega⟩)
              | (go_wp2_with fail
                 exact ⟨⟨j + 1, by omega, by go_num, own, own.size, b, rfl, rfl, rfl, ho, Nat.le_refl _, hb, st', HH.out.1, HH.out.2⟩, by simp [intOf]; omega⟩)
        · have hq : (len0 : Int) ≤ (j : Int) ∨ ((j : Int) < (len0 : Int) ∧ (20 : Int) ≤ (j : Int)) := by omega
          have HH := Lib.hid (And.intro H S)
          clear hlt w0 H S ho ha hb os0 os1 aos bos
          rcases hq with hq | ⟨hq, hq2⟩
          all_goals
            go_wp2_with fail
            obtain ⟨H, S⟩ := HH.out
            have hst : (∃ own a b, (0 : Nat) ≤ k ∧ ∃ st, FS st own a b (k - 0 + 1) ∧ Std w t L d q st wr) ∨ ((0 : Nat) = k + 1 ∧ ∃ own b st, FE st own b ∧ Std w t L d q st wr) := .inl ⟨own, a, b, Nat.zero_le _, st, H, S⟩
            clear HH H S
            go_loopw [29] (fun i wr => ∃ p : Nat, p ≤ k + 1 ∧ i = .int .i64 (p : Int) ∧ ((∃ own a b, p ≤ k ∧ ∃ st, FS st own a b (k - p + 1) ∧ Std w t L d q st wr) ∨ (p = k + 1 ∧ ∃ own b st, FE st own b ∧ Std w t L d q st wr))) (fun i _ => k + 1 - (intOf i).toNat)
            case atStart => exact ⟨0, Nat.zero_le _, rfl, hst⟩
            case round =>
              clear hst
              obtain ⟨p, hp, rfl, hrel⟩ := hrel
              have p0 : (0 : Int) ≤ (p : Int) := by omega
              rcases hrel with ⟨own, a, b, hpk, st, H, S⟩ | ⟨rfl, own, b, st, H, S⟩
              · have p1 : (p : Int) ≤ (k : Int) := by omega
                have Hi := Lib.hid (g_is0 S H)
                clear H S
                go_wp2_with fail
                refine Hi.out.mono ?_; rintro e W7 ⟨rfl, st1, H, S⟩
                have Hi2 := Lib.hid (g_ino S H)
                clear Hi H S
                go_wp2_with fail
                refine Hi2.out.mono ?_; rintro e W8 ⟨rfl, st2, H, S⟩
                clear Hi2
                by_cases hlast : p = k
                · rw [show k - p + 1 = 1 by omega] at H
                  have Hc := Lib.hid (g_closeE S H)
                  clear H S
                  go_wp2_with fail
                  refine Hc.out.mono ?_; rintro e W9 ⟨rfl, st3, H, S⟩
                  clear Hc
                  have HH := Lib.hid (And.intro H S)
                  clear H S
                  go_wp2_with fail
                  exact ⟨⟨p + 1, by omega, by go_num, .inr ⟨by omega, own, b, st3, HH.out.1, HH.out.2⟩⟩, by simp [intOf]; omega⟩
                · rw [show k - p + 1 = (k - p - 1) + 2 by omega] at H
                  have Hc := Lib.hid (g_close0 S H (by omega))
                  clear H S
                  go_wp2_with fail
                  refine Hc.out.mono ?_; rintro e W9 ⟨rfl, st3, H, S⟩
                  clear Hc
                  have HH := Lib.hid (And.intro H S)
                  clear H S
                  go_wp2_with fail
                  exact ⟨⟨p + 1, by omega, by go_num, .inl ⟨own, a, b, by omega, st3, by rw [show k - (p + 1) + 1 = k - p - 1 + 1 by omega]; exact HH.out.1, HH.out.2⟩⟩, by simp [intOf]; omega⟩
              · have Hi := Lib.hid (ge_is0 S H)
                clear H S
                have kk : ¬ ((k : Int) + 1 ≤ (k : Int)) := by omega
                go_wp2_with fail
                refine Hi.out.mono ?_; rintro e W7 ⟨rfl, st1, H, S⟩
                have Hi2 := Lib.hid (ge_close0 S H)
                clear Hi H S
                go_wp2_with fail
                refine Hi2.out.mono ?_; rintro e W8 ⟨rfl, st2, H, S⟩
                have Hi3 := Lib.hid (ge_ino S H)
                clear Hi2 H S
                go_wp2_with fail
                refine Hi3.out.mono ?_; rintro e W9 ⟨rfl, st3, H, S⟩
                have Hi4 := Lib.hid (ge_close1 S H)
                clear Hi3 H S
                go_wp2_with fail
                refine Hi4.out.mono ?_; rintro e Wa ⟨rfl, st4, H, S⟩
                have Hi5 := Lib.hid (ge_end1 S H)
                clear Hi4 H S
                go_wp2_with fail
                refine Hi5.out.mono ?_; rintro e Wb ⟨rfl, st5, H, S⟩
                have Hi6 := Lib.hid (ge_end2 S H)
                clear Hi5 H S
                go_wp2_with fail
                refine Hi6.out.mono ?_; rintro e Wc ⟨rfl, bc⟩
                clear Hi6
                go_wp2_with fail
                refine (fruns_any Wc).mono ?_; rintro e Wd ⟨rfl, td⟩
                have bF := bc.trans (td.mono bc.size)
                clear bc td
                go_wp2_with fail
                go_ret
                exact ⟨rfl, bF⟩
end Go.Proofs.Ytdlcbclfniahoaa.St
