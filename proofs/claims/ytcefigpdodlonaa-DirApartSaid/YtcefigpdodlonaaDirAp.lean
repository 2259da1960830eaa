/- The walk of cloisterlaw11.DirApart. No condition but those written in each statement. -/
import Derived.Test.YtcefigpdodlonaaDirRu
import Derived.Test.YtcefigpdodlonaaMix
import Derived.Test.YtcefigpdodlonaaWithin
namespace Go.Proofs.Ytcefigpdodlonaa.St
open Go.RowKit
set_option linter.unusedVariables false

def keepB : ByteArray := ⟨#[107, 101, 101, 112]⟩
/-- Directory 1 holds its one name; 2 is a directory. -/
def DA (st : VSt) (i : Int) : Prop := DirAt st 1 [(keepB, i)] ∧ ∃ es, DirAt st 2 es

section
variable {w W : World} {t : Nat} {L : Lay} {d q : Nat} {st : VSt} {i : Int}

theorem da_mk2 (S : Std w t L d q (iAlloc (csN 0) 1) W) : Calls Try.prog 8 #[.pointer (some ⟨L.v, 0, none⟩), .int .i64 1] W fun e W' => e = .returned (.tuple #[.int .i64 2, .bool true]) ∧ ∃ st', (DirAt st' 1 [] ∧ DirAt st' 2 []) ∧ Std w t L d q st' W' := by
  have hf : iFree (iAlloc (csN 0) 1) = 2 := by kernel_rfl
  have h := s_alloc S 1
  have hd := dirAt_new (iAlloc (csN 0) 1) (by omega) (by omega)
  rw [hf] at hd
  have h1 : DirAt (iAlloc (csN 0) 1) 1 [] := by
    have := dirAt_new (csN 0) (by rw [cs_free 0 (by decide)]; decide) (by rw [cs_free 0 (by decide)]; decide)
    rw [cs_free 0 (by decide)] at this
    exact this
  have h2 : DirAt (iAlloc (iAlloc (csN 0) 1) 1) 1 [] := dirAt_same h1 (alloc_get _ _ _ _ (by omega) (by rw [hf]; omega))
  rw [show iGot (iAlloc (csN 0) 1) = 2 by unfold iGot; rw [hf]; decide, hf] at h
  exact h.mono fun e W' ⟨a, b, _⟩ => ⟨a, _, ⟨h2, hd⟩, b⟩
theorem da_mk1 (S : Std w t L d q (csN 0) W) : Calls Try.prog 8 #[.pointer (some ⟨L.v, 0, none⟩), .int .i64 1] W fun e W' => e = .returned (.tuple #[.int .i64 1, .bool true]) ∧ Std w t L d q (iAlloc (csN 0) 1) W' := by
  have hf : iFree (csN 0) = 1 := cs_free 0 (by decide)
  have h := s_alloc S 1
  rw [show iGot (csN 0) = 1 by unfold iGot; rw [hf]; decide, hf] at h
  exact h.mono fun e W' ⟨a, b, _⟩ => ⟨a, b⟩
theorem keep_place : rightL keepB.data.toList = true ∧ placeE [] keepB = -1 ∧ findI (fun e => !thereE e) [] = -1 := by decide +kernel
theorem da_keep (hM : Mx w) (S : Std w t L d q st W) (H : DirAt st 1 [] ∧ DirAt st 2 []) (h1 : 1 ≤ i) (h2 : i < 16) : Calls Try.prog 9 #[.pointer (some ⟨L.v, 0, none⟩), .int .i64 1, .string ⟨#[107, 101, 101, 112]⟩, .int .i64 i] W fun e W' => e = .returned (.bool true) ∧ ∃ st', DA st' i ∧ Std w t L d q st' W' := by
  have h := d_add hM S H.1 (by decide) (by decide) keepB i (by decide)
  obtain ⟨k1, k2, k3⟩ := keep_place
  have e1 : addB [] keepB i = true := by
    unfold addB
    rw [k1, k2, k3]
    have : thereE (keepB, i) = true := by unfold thereE; simp; omega
    rw [this]; rfl
  have e2 : addE [] keepB i = [(keepB, i)] := by unfold addE; rw [e1, k3]; rfl
  rw [e1, e2] at h
  exact h.mono fun e W' ⟨a, st', ⟨b, c⟩, s, _⟩ => ⟨a, st', ⟨b, _, dirAt_same H.2 (c _ _ (by omega))⟩, s⟩
theorem da_add (hM : Mx w) (S : Std w t L d q st W) (H : DA st i) (s : ByteArray) (n : Int) (hs : s.size ≤ 1048576) : Calls Try.prog 9 #[.pointer (some ⟨L.v, 0, none⟩), .int .i64 2, .string s, .int .i64 n] W fun e W' => ∃ x, e = .returned (.bool x) ∧ ∃ st', DA st' i ∧ Std w t L d q st' W' := by
  obtain ⟨H1, es, H2⟩ := H
  exact (d_add hM S H2 (by decide) (by decide) s n hs).mono fun e W' ⟨a, st', ⟨b, c⟩, s, _⟩ => ⟨_, a, st', ⟨dirAt_same H1 (c _ _ (by omega)), _, b⟩, s⟩
theorem da_rem (hM : Mx w) (S : Std w t L d q st W) (H : DA st i) (s : ByteArray) (hs : s.size ≤ 1048576) : Calls Try.prog 10 #[.pointer (some ⟨L.v, 0, none⟩), .int .i64 2, .string s] W fun e W' => ∃ x, e = .returned (.bool x) ∧ ∃ st', DA st' i ∧ Std w t L d q st' W' := by
  obtain ⟨H1, es, H2⟩ := H
  exact (d_rem hM S H2 (by decide) (by decide) s hs).mono fun e W' ⟨a, st', ⟨b, c⟩, s, _⟩ => ⟨_, a, st', ⟨dirAt_same H1 (c _ _ (by omega)), _, b⟩, s⟩
theorem da_same {st' : VSt} (H : DA st i) (e : ∀ k m, st'.get k m = st.get k m) : DA st' i := by
  obtain ⟨H1, es, H2⟩ := H
  exact ⟨dirAt_same H1 (e _ _), es, dirAt_same H2 (e _ _)⟩
theorem keep_is (h1 : 1 ≤ i) (h2 : i < 16) : placeE [(keepB, i)] keepB = 0 := by
  unfold placeE
  rw [keep_place.1, if_pos rfl]
  have : bearsE keepB (keepB, i) = true := by unfold bearsE thereE; simp; omega
  exact findI_hit (j := 0) (by simp) this (fun t ht h => absurd h (by omega))
theorem da_find (hM : Mx w) (S : Std w t L d q st W) (H : DA st i) (h1 : 1 ≤ i) (h2 : i < 16) : Calls Try.prog 11 #[.pointer (some ⟨L.v, 0, none⟩), .int .i64 1, .string ⟨#[107, 101, 101, 112]⟩] W fun e W' => e = .returned (.tuple #[.int .i64 i, .bool true]) ∧ ∃ st', DA st' i ∧ Std w t L d q st' W' := by
  have h := d_find hM S H.1 (by decide) (by decide) keepB (by decide)
  have k := keep_is h1 h2
  rw [show fndN [(keepB, i)] keepB = i by unfold fndN; rw [k, if_neg (by decide)]; rfl, show fndB [(keepB, i)] keepB = true by unfold fndB; rw [k]; decide] at h
  exact h.mono fun e W' ⟨a, st', b, s, _⟩ => ⟨a, st', da_same H b, s⟩
theorem da_size (S : Std w t L d q st W) (H : DA st i) : Calls Try.prog 15 #[.pointer (some ⟨L.v, 0, none⟩), .int .i64 1] W fun e W' => e = .returned (.int .i64 16) ∧ ∃ st', DA st' i ∧ Std w t L d q st' W' := by
  have h := s_size S 1
  rw [(dirAt_val H.1 (by decide) (by decide)).2.1] at h
  exact h.mono fun e W' ⟨a, s, _⟩ => ⟨a, _, da_same H (fun k m => get_iSaw _ _ _ _), s⟩
theorem da_names (hM : Mx w) (S : Std w t L d q st W) (H : DA st i) (h1 : 1 ≤ i) (h2 : i < 16) : Calls Try.prog 13 #[.pointer (some ⟨L.v, 0, none⟩), .int .i64 1] W fun e W' => ∃ a c, e = .returned (.slice a 1 c) ∧ TR W' a [⟨#[107, 101, 101, 112]⟩] ∧ ∃ st', DA st' i ∧ Std w t L d q st' W' := by
  have h := d_names hM S H.1 (by decide) (by decide)
  rw [show namesE [(keepB, i)] = [⟨#[107, 101, 101, 112]⟩] by unfold namesE thereE; simp [h1, h2]; rfl] at h
  refine h.mono fun e W' ⟨v, a, o, st', b, s, _⟩ => ?_
  obtain ⟨x, c, e', tr, _⟩ := o.tr
  exact ⟨x, c, by rw [a, e']; rfl, tr, st', da_same H b, s⟩
theorem da_type (S : Std w t L d q st W) (H : DA st i) : Calls Try.prog 16 #[.pointer (some ⟨L.v, 0, none⟩), .int .i64 2] W fun e W' => e = .returned (.int .i64 1) ∧ Below w.heap.size w W' := by
  have h := s_typ S 2
  obtain ⟨H1, es, H2⟩ := H
  rw [(dirAt_val H2 (by decide) (by decide)).1] at h
  exact h.mono fun e W' ⟨a, s, _⟩ => ⟨a, s.b⟩
end

attribute [local irreducible] Int.lt Int.le csN
set_option maxRecDepth 100000 in
set_option maxHeartbeats 4000000 in
theorem dirApart_walk (a0 : Option Addr) (len0 cap0 : Nat) (a1 : Int) (w : World) (w0 : IsMix [.int .i64, .int .i64, .int .i64, .str] w a0 len0 cap0) (w1 : (Lit.int .i64 a1).wf = true) (hM : Mx w) :
    Calls Try.prog 4 #[.slice a0 len0 cap0, .int .i64 a1] w fun e w' => e = .returned (.bool true) ∧ Below w.heap.size w w' := by
  go_enter Try.func4, Try.ntmps4
  go_wp2_with fail
  refine (s_newV _).mono ?_; rintro e W1 ⟨t, d, q, L, rfl, S1⟩
  have c1 := S1.cell
  go_wp2_with fail
  refine (da_mk1 S1).mono ?_; rintro e W2 ⟨rfl, S2⟩
  have c2 := S2.cell
  clear S1 c1
  go_wp2_with fail
  refine (da_mk2 S2).mono ?_; rintro e W3 ⟨rfl, st3, H3, S3⟩
  have c3 := S3.cell
  clear S2 c2
  go_wp2_with fail
  have wb := Fp.within_bounds a1 1 15 (by omega)
  refine (Fp.within_any a1 1 15 (by omega) (by omega) (by omega) _).mono ?_; rintro e W6 ⟨rfl, rfl⟩
  generalize Fp.withinI a1 1 15 = g at *
  have g1 : 1 ≤ g := wb.1
  have g2 : g < 16 := by omega
  clear wb
  go_wp2_with fail
  refine (da_keep hM S3 H3 g1 g2).mono ?_; rintro e W4 ⟨rfl, st4, H4, S4⟩
  have c4 := S4.cell
  clear S3 c3 H3
  go_wp2_with fail
  refine (da_size S4 H4).mono ?_; rintro e W5 ⟨rfl, st5, H5, S5⟩
  clear S4 c4 H4
  go_wp2_with fail
  go_loopw [12] (fun k wr => ∃ (j : Nat) (st : VSt), j ≤ 20 ∧ k = .int .i64 (j : Int) ∧ DA st g ∧ Std w t L d q st wr) (fun k _ => 20 - (intOf k).toNat)
  case atStart => exact ⟨0, st5, by omega, rfl, H5, S5⟩
  case round =>
    clear H5 S5
    obtain ⟨j, st6, j1, rfl, H6, S6⟩ := hrel
    have c6 := S6.cell
    by_cases hlt : j < len0 ∧ j < 20
    · rcases w0 with ⟨_, q2, _⟩ | ⟨x, rfl, x1, x2, hx⟩
      · omega
      obtain ⟨_, ⟨n0, rfl, _⟩, z0⟩ := mix_first hx 4 rfl j hlt.1 _ rfl
      obtain ⟨_, ⟨n2, rfl, _⟩, z2⟩ := mix_field hx 4 rfl j hlt.1 2 _ rfl (by omega)
      obtain ⟨_, ⟨s3, rfl, hs3⟩, z3⟩ := mix_field hx 4 rfl j hlt.1 3 _ rfl (by omega)
      have y0 := z0 _ S6.b
      have y2 := z2 _ S6.b
      have y3 := z3 _ S6.b
      have l1 : (j : Int) < len0 := by omega
      have l2 : (j : Int) < 20 := by omega
      have Z0 := Lib.hid z0
      have Z2 := Lib.hid z2
      clear z0 z2 z3
      go_wp2_with fail
      have hsz : (s3.extract 0 (min (s3.size : Int) 14).toNat).size ≤ 1048576 := by rw [ByteArray.size_extract]; omega
      go_quiet (fail)
      generalize s3.extract 0 (min (s3.size : Int) 14).toNat = sN at *
      have S7 := S6.drewN nq
      clear y0 y2 y3 S6 c6
      generalize wr.drewN nq = W6 at *
      have c7 := S7.cell
      have y0 := Z0.out _ S7.b
      have y2 := Z2.out _ S7.b
      by_cases hn : n0 = 2
      case' pos =>
        subst hn
        go_wp2_with fail
        refine (da_rem hM S7 H6 sN hsz).mono ?_; rintro e W7 ⟨x7, rfl, st8, H8, S8⟩
        have c8 := S8.cell
        clear S7 c7 H6 y0 y2
        go_wp2_with fail
      case' neg =>
        have hn2 : (n0 == 2) = false := beq_eq_false_iff_ne.2 hn
        go_wp2_with fail
        go_still_tail 11, (by kernel_rfl)
        change wpList _ _ _ _ _ W6.drew
        have S6d := S7.drew
        clear S7 c7 y0 y2
        generalize W6.drew = W6d at *
        go_wp2_with fail
        refine (da_add hM S6d H6 sN n2 hsz).mono ?_; rintro e W7 ⟨x7, rfl, st8, H8, S8⟩
        have c8 := S8.cell
        clear S6d H6
        go_wp2_with fail
      all_goals
        clear hsz hx
        refine (da_find hM S8 H8 g1 g2).mono ?_; rintro e W9 ⟨rfl, st9, H9, S9⟩
        have c9 := S9.cell
        clear S8 H8 c8
        go_wp2_with fail
        refine (da_size S9 H9).mono ?_; rintro e Wa ⟨rfl, sta, Ha, Sa⟩
        have ca := Sa.cell
        clear S9 H9 c9
        go_wp2_with fail
        refine (da_names hM Sa Ha g1 g2).mono ?_; rintro e Wb ⟨a, c, rfl, tr, stb, Hb, Sb⟩
        clear Sa Ha ca
        go_wp2_with fail
        have bA : Below Wb.heap.size Wb (Wb.alloc (Obj.cells #[Value.string ⟨#[107, 101, 101, 112]⟩] 9)) := (Below.refl _ _).alloc (Nat.le_refl _) _
        have tr2 : TR (Wb.alloc (Obj.cells #[Value.string ⟨#[107, 101, 101, 112]⟩] 9)) (some ⟨Wb.heap.size, 0, none⟩) [⟨#[107, 101, 101, 112]⟩] := by
          intro i hi
          refine ⟨_, rfl, ?_⟩
          have hb := blk_alloc_at Wb (Obj.cells #[Value.string ⟨#[107, 101, 101, 112]⟩] 9) _ rfl
          match i, hi with
          | 0, _ => exact cell_of_row _ _ 0 _ _ _ hb
        refine (sameT_yes a _ c 1 [⟨#[107, 101, 101, 112]⟩] _ (by decide) (tr.below bA) tr2).mono ?_; rintro e Wc ⟨rfl, tc⟩
        have Sc := (Sb.below bA).below tc
        clear Sb bA tr tr2 tc
        go_wp2_with fail
        exact ⟨⟨j + 1, stb, by omega, by go_num, Hb, Sc⟩, by simp [intOf]; omega⟩
    · clear w0
      rcases (show (len0 ≤ j ∧ (len0 : Int) ≤ j) ∨ (j < len0 ∧ (j : Int) < len0 ∧ (20 : Int) ≤ j) by omega) with ⟨l1, l2⟩ | ⟨l1, l2, l3⟩
      all_goals
        go_wp2_with fail
        refine (da_type S6 H6).mono ?_; rintro e W7 ⟨rfl, b7⟩
        clear S6 H6 c6
        go_wp2_with fail
        refine (druns_any _ (hM.below (Nat.le_refl _) b7)).mono ?_; rintro e W8 ⟨rfl, b8⟩
        go_wp2_with fail
        go_ret
        exact ⟨rfl, b7.trans (b8.mono b7.size)⟩
end Go.Proofs.Ytcefigpdodlonaa.St
