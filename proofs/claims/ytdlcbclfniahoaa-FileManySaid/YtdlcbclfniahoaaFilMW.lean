/- The walk of cloisterlaw14.FileMany. No condition but those written in each statement. -/
import Derived.Test.YtdlcbclfniahoaaFilM
import Derived.Test.YtdlcbclfniahoaaLawKit
namespace Go.Proofs.Ytdlcbclfniahoaa.St
open Go.RowKit
set_option linter.unusedVariables false

theorem row_at {k : IntKind} {w : World} {a : Option Addr} {len cap : Nat} {zs : List Int} (h : IsRow k w a len cap zs) (i : Nat) (hi : i < len) : ∃ x, a = some x ∧ w.cell? (x.add i) = some (.int k (zs.getD i 0)) := by
  rcases h with ⟨_, q, _⟩ | ⟨x, e, h1, _, h3, h4, _⟩
  · omega
  · exact ⟨x, e, h4 i (by omega)⟩
theorem bool_succ (b : Bool) (x u : Nat) : (decide (x < u + 1) || b) = ((decide (x < u) || b) || decide (u = x)) := by
  cases b
  · rw [Bool.eq_iff_iff]; simp; omega
  · simp
/-- The table's files are those not closed. -/
structure MT (w W : World) (t : Nat) (L : Lay) (d q B : Nat) (o c : Nat → Bool) (h : Int) (n : Nat) : Prop where
  ex : ∃ st, FM st o h ∧ Std w t L d q st W
  im : IM W B c n
  lo : w.heap.size ≤ B
  ne : L.v ≠ B ∧ L.s ≠ B ∧ L.l ≠ B ∧ L.r ≠ B ∧ L.m ≠ B ∧ t ≠ B
section
variable {w W : World} {t : Nat} {L : Lay} {d q B : Nat} {o c : Nat → Bool} {h : Int} {n : Nat}
theorem MT.b (D : MT w W t L d q B o c h n) : Below w.heap.size w W := by obtain ⟨st, _, S⟩ := D.ex; exact S.b
theorem MT.drew (D : MT w W t L d q B o c h n) : MT w W.drew t L d q B o c h n := by
  obtain ⟨st, H, S⟩ := D.ex
  exact ⟨⟨st, H, S.drew⟩, D.im, D.lo, D.ne⟩
theorem im_maps {W' : World} (h : IM W B c n) (ne : L.r ≠ B ∧ L.m ≠ B) (m : Maps L W W') : IM W' B c n :=
  h.keep (m.block B h.lt (by rintro (q | q); exact ne.1 q.symm; exact ne.2 q.symm))
theorem t_close (D : MT w W t L d q B o c h n) (h1 : -1000 ≤ h) (h2 : h ≤ 1000) {x : Nat} (hx : x < 12) : Calls Try.prog 14 #[.pointer (some ⟨L.v, 0, none⟩), .int .i64 x] W fun e W' => e = .returned (.bool (o x)) ∧ (Instr.lookup 49 (.map (some B)) (.int .i64 x) false).run Try.prog W' = .ok (.bool (c x)) W' ∧
    (Instr.lookup 49 (.map (some B)) (.int .i64 x) false).run Try.prog W'.drew = .ok (.bool (c x)) W'.drew ∧ ∃ h', (h - 1 ≤ h' ∧ h' ≤ h) ∧ MT w W' t L d q B (fun j => o j && !decide (x = j)) c h' n := by
  obtain ⟨⟨st, H, S⟩, im, lo, ne⟩ := D
  refine (m_close S H h1 h2 hx).mono fun e W' ⟨a, st', h', hh, b, S', m⟩ => ?_
  have im' := im_maps im ⟨ne.2.2.2.1, ne.2.2.2.2.1⟩ m
  exact ⟨a, im'.look x hx, IM.look (W := W'.drew) im' x hx, h', hh, ⟨st', b, S'⟩, im', lo, ne⟩
theorem t_put (D : MT w W t L d q B o c h n) (hn : n < 100) {x : Nat} (hx : x < 12) : ∃ W', (Instr.mapUpdate 49 (.map (some B)) (.int .i64 x) (.bool true)).run Try.prog W = .ok () W' ∧ MT w W' t L d q B o (fun j => c j || decide (x = j)) h (n + 1) := by
  obtain ⟨⟨st, H, S⟩, im, lo, ne⟩ := D
  obtain ⟨W', r, im', g⟩ := im.put hn x hx
  exact ⟨W', r, ⟨st, H, S.off (turn_grown g) lo ⟨ne.1, ne.2.1, ne.2.2.1, ne.2.2.2.1, ne.2.2.2.2.1⟩ ne.2.2.2.2.2⟩, im', lo, ne⟩
theorem t_is (D : MT w W t L d q B o c h n) {x : Nat} (hx : x < 12) (ho : o x = false) : Calls Try.prog 16 #[.pointer (some ⟨L.v, 0, none⟩), .int .i64 x] W fun e W' => e = .returned (.bool false) ∧ MT w W' t L d q B o c h n := by
  obtain ⟨⟨st, H, S⟩, im, lo, ne⟩ := D
  exact (m_is S H hx ho).mono fun e W' ⟨a, st', b, S', m⟩ => ⟨a, ⟨st', b, S'⟩, im_maps im ⟨ne.2.2.2.1, ne.2.2.2.2.1⟩ m, lo, ne⟩
theorem t_dup (D : MT w W t L d q B o c h n) {x : Nat} (hx : x < 12) (ho : o x = false) : Calls Try.prog 13 #[.pointer (some ⟨L.v, 0, none⟩), .int .i64 x] W fun e W' => e = .returned (.bool false) ∧ MT w W' t L d q B o c h n := by
  obtain ⟨⟨st, H, S⟩, im, lo, ne⟩ := D
  exact (m_dup S H hx ho).mono fun e W' ⟨a, st', b, S', m⟩ => ⟨a, ⟨st', b, S'⟩, im_maps im ⟨ne.2.2.2.1, ne.2.2.2.2.1⟩ m, lo, ne⟩
theorem t_open (D : MT w W t L d q B o c h n) {k : Nat} (hk : k < 12) (h1 : ∀ j, j < k → o j = true) (h2 : o k = false) : Calls Try.prog 11 #[.pointer (some ⟨L.v, 0, none⟩), .int .i64 1, .int .i64 1, .int .i64 1] W fun e W' => e = .returned (.tuple #[.int .i64 k, .bool true]) ∧ MT w W' t L d q B (fun j => o j || decide (k = j)) c h n := by
  obtain ⟨⟨st, H, S⟩, im, lo, ne⟩ := D
  exact (m_open S H hk h1 h2).mono fun e W' ⟨a, st', b, S', m⟩ => ⟨a, ⟨st', b, S'⟩, im_maps im ⟨ne.2.2.2.1, ne.2.2.2.2.1⟩ m, lo, ne⟩
theorem MT.congr {o' : Nat → Bool} (D : MT w W t L d q B o c h n) (e : ∀ j, j < 12 → o' j = o j) : MT w W t L d q B o' c h n := by
  obtain ⟨⟨st, H, S⟩, im, lo, ne⟩ := D
  exact ⟨⟨st, H.congr e, S⟩, im, lo, ne⟩
theorem MT.cell (D : MT w W t L d q B o c h n) : W.cell? ⟨t, 1, none⟩ = some (.pointer (some ⟨L.v, 0, none⟩)) := by obtain ⟨st, _, S⟩ := D.ex; exact S.cell
end

attribute [local irreducible] Int.lt Int.le
set_option maxRecDepth 100000 in
set_option maxHeartbeats 4000000 in
theorem fileMany_walk (a0 : Option Addr) (len0 cap0 : Nat) (z0 : List Int) (a1 : Int) (w : World) (w0 : IsRow .i64 w a0 len0 cap0 z0) (w1 : (Lit.int .i64 a1).wf = true) :
    Calls Try.prog 5 #[.slice a0 len0 cap0, .int .i64 a1] w fun e w' => e = .returned (.bool true) ∧ Below w.heap.size w w' := by
  have hmm := @run_makeMap Try.prog
  have hz := @zero_val
  go_enter Try.func5, Try.ntmps5
  go_wp2_with fail
  refine (s_new _).mono ?_; rintro e W1 ⟨t, d, q, L, rfl, S1⟩
  have c1 := S1.cell
  go_wp2_with fail
  refine (frun1 S1).mono ?_; rintro e W2 ⟨rfl, S2⟩
  clear S1 c1
  go_wp2_with fail
  refine (mfirst S2).mono ?_; rintro e W3 ⟨rfl, st3, H3, S3⟩
  clear S2
  go_wp2_with fail
  go_loopw [9] (fun k wr => ∃ (j : Nat) (st : VSt), j ≤ 12 ∧ k = .int .i64 (j : Int) ∧ FM st (fun x => decide (x < j)) (j : Int) ∧ Std w t L d q st wr) (fun k _ => 12 - (intOf k).toNat)
  case atStart => exact ⟨0, st3, by omega, rfl, H3.congr (fun j _ => by simp), S3⟩
  case round =>
    clear H3 S3
    obtain ⟨j, st, j1, rfl, H, S⟩ := hrel
    have j0 : (0 : Int) ≤ (j : Int) := by omega
    by_cases hlt : j < 12
    · have l1 : (j : Int) < 12 := by omega
      go_wp2_with fail
      refine (m_open S H hlt (fun x hx => by simpa using hx) (by simp)).mono ?_; rintro e W4 ⟨rfl, st4, H4, S4, _⟩
      clear S H
      go_wp2_with fail
      refine (m_change S4 H4 (by omega) (by omega)).mono ?_; rintro e W5 ⟨rfl, st5, H5, S5, _⟩
      clear S4 H4
      go_wp2_with fail
      exact ⟨⟨j + 1, st5, by omega, by go_num, H5.congr (fun x _ => by rw [Bool.eq_iff_iff]; simp; omega), S5⟩, by simp [intOf]; omega⟩
    · obtain rfl : j = 12 := by omega
      go_wp2_with fail
      refine (m_full S H (fun x hx => by simpa using hx)).mono ?_; rintro e W4 ⟨rfl, st4, H4, S4⟩
      clear S H
      go_wp2_with fail
      have lt := S4.v.lts
      have ltt := blk_lt S4.t
      have D0 : MT w (W4.alloc (Obj.map #[] 0)) t L d q W4.heap.size (fun x => !(fun _ => false) x) (fun _ => false) 12 0 :=
        ⟨⟨st4, H4.congr (fun x hx => by simp [hx]), S4.below ((Below.refl _ _).alloc (Nat.le_refl _) _)⟩, IM.made W4, S4.b.size, by omega⟩
      generalize W4.alloc (Obj.map #[] 0) = W5 at *
      generalize W4.heap.size = B at *
      clear S4 H4 lt ltt hmm
      go_loopw [15] (fun k wr => ∃ (j : Nat) (c : Nat → Bool) (h : Int), j ≤ 10 ∧ k = .int .i64 (j : Int) ∧ (12 - j ≤ h ∧ h ≤ 12) ∧ MT w wr t L d q B (fun x => !c x) c h j) (fun k _ => 10 - (intOf k).toNat)
      case atStart => exact ⟨0, _, 12, by omega, rfl, by omega, D0⟩
      case round =>
        clear D0
        obtain ⟨j, c, h, j2, rfl, hh, D⟩ := hrel
        have k0 : (0 : Int) ≤ (j : Int) := by omega
        by_cases hlt2 : j < len0 ∧ j < 10
        · obtain ⟨x, rfl, x0⟩ := row_at w0 j hlt2.1
          have y0 := (D.b.cell (World.block_lt_of_cell? _ _ x0)).trans x0
          have l1 : (j : Int) < len0 := by omega
          have l2 : (j : Int) < 10 := by omega
          clear x0
          generalize z0.getD j 0 = n1 at *
          go_wp2_with fail
          have wb := Fp.within_bounds n1 0 11 (by omega)
          refine (Fp.within_any n1 0 11 (by omega) (by omega) (by omega) _).mono ?_; rintro e Wx ⟨rfl, rfl⟩
          obtain ⟨g, hg⟩ : ∃ g : Nat, Fp.withinI n1 0 11 = (g : Int) := ⟨(Fp.withinI n1 0 11).toNat, by omega⟩
          rw [hg] at wb ⊢
          clear hg y0
          have hg : g < 12 := by omega
          clear wb
          have hk := D.im.look g hg
          have hkd : (Instr.lookup 49 (.map (some B)) (.int .i64 g) false).run Try.prog wr.drew = .ok (.bool (c g)) wr.drew := IM.look (W := wr.drew) D.im g hg
          have D' := D.drew
          go_wp2_with fail
          go_region_with (first
            | (go_at_call 14; refine (t_close (by assumption : MT w _ t L d q B (fun x => !c x) c h j) (by omega) (by omega) hg).mono ?_; rintro e W6 ⟨rfl, k6, k6d, h6, hh6, D6⟩))
          all_goals
            clear D D' hk hkd k6 k6d
            obtain ⟨W7, r7, D7⟩ := t_put D6 (by omega) hg
            have D7 := D7.congr (o' := fun x => !(c x || decide (g = x))) (fun x _ => by simp)
            clear D6
            go_wp2_with fail
            clear r7
            refine (t_is D7 hg (by simp)).mono ?_; rintro e W8 ⟨rfl, D8⟩
            clear D7
            go_wp2_with fail
            refine (t_dup D8 hg (by simp)).mono ?_; rintro e W9 ⟨rfl, D9⟩
            clear D8
            go_wp2_with fail
            exact ⟨⟨j + 1, _, h6, by omega, by go_num, by omega, D9⟩, by simp [intOf]; omega⟩
        · clear w0
          rcases (show (len0 ≤ j ∧ (len0 : Int) ≤ j) ∨ (j < len0 ∧ (j : Int) < len0 ∧ (10 : Int) ≤ j) by omega) with ⟨l1, l2⟩ | ⟨l1, l2, l3⟩
          all_goals
            go_wp2_with fail
            first | clear hlt2 l1 l2 l3 | clear hlt2 l1 l2
            go_loopw [17] (fun k wr => ∃ (u : Nat), u ≤ 12 ∧ k = .int .i64 (u : Int) ∧ MT w wr t L d q B (fun x => decide (x < u) || !c x) c h j) (fun k _ => 12 - (intOf k).toNat)
            case atStart => exact ⟨0, by omega, rfl, D.congr (fun x _ => by simp)⟩
            case round =>
              clear D
              obtain ⟨u, u1, rfl, D⟩ := hrel
              have u0 : (0 : Int) ≤ (u : Int) := by omega
              by_cases hlt3 : u < 12
              · have l1 : (u : Int) < 12 := by omega
                have hk := D.im.look u hlt3
                cases hc : c u with
                | true =>
                  rw [hc] at hk
                  go_wp2_with fail
                  refine (t_open D hlt3 (fun x hx => by simp [hx]) (by simp [hc])).mono ?_; rintro e W6 ⟨rfl, D6⟩
                  clear D hk
                  go_wp2_with fail
                  exact ⟨⟨u + 1, by omega, by go_num, D6.congr (fun x _ => bool_succ _ _ _)⟩, by simp [intOf]; omega⟩
                | false =>
                  rw [hc] at hk
                  go_wp2_with fail
                  refine ⟨⟨u + 1, by omega, by go_num, D.congr (fun x _ => ?_)⟩, by simp [intOf]; omega⟩
                  by_cases e : x = u
                  · subst e; simp [hc]
                  · have h3 : (x < u + 1) ↔ (x < u) := by omega
                    simp [h3]
              · obtain rfl : u = 12 := by omega
                obtain ⟨⟨st, H, S⟩, _, _, _⟩ := D
                have c6 := S.cell
                go_wp2_with fail
                have wb := Fp.within_bounds a1 0 9 (by omega)
                refine (Fp.within_any a1 0 9 (by omega) (by omega) (by omega) _).mono ?_; rintro e Wx ⟨rfl, rfl⟩
                generalize Fp.withinI a1 0 9 = g at *
                have g0 : 0 ≤ g := wb.1
                have g1 : g ≤ 9 := wb.2
                clear wb
                go_wp2_with fail
                refine (m_read S H (Or.inr (by omega))).mono ?_; rintro e W6 ⟨rfl, st6, H6, S6⟩
                clear S H c6
                go_wp2_with fail
                refine (m_stat S6 H6 (Or.inl (by omega))).mono ?_; rintro e W7 ⟨rfl, st7, H7, S7⟩
                clear S6 H6
                have S8 := S7.below ((Below.refl W7.heap.size W7).alloc (Nat.le_refl _) (Obj.cells #[.int .i64 0, .int .i64 0, .int .i64 0, .int .i64 0] 51))
                go_wp2_with fail
                refine (m_closeo S8 H7 (Or.inr (by omega))).mono ?_; rintro e W9 ⟨rfl, st9, H9, S9⟩
                clear S7 S8 H7
                go_wp2_with fail
                refine (m_ino S9 H9).mono ?_; rintro e Wa ⟨rfl, sta, _, Sa⟩
                have ba := Sa.b
                clear S9 H9 Sa
                go_wp2_with fail
                refine (fruns_any _).mono ?_; rintro e Wb ⟨rfl, bb⟩
                go_wp2_with fail
                go_ret
                exact ⟨rfl, ba.trans (bb.mono ba.size)⟩
end Go.Proofs.Ytdlcbclfniahoaa.St
