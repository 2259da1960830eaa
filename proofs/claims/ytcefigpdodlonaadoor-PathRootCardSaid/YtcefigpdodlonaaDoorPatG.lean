/- The grown trees of cloisterlaw12. No condition but those written in each statement. -/
import Derived.Test.YtcefigpdodlonaaDoorPatF
namespace Go.Proofs.YtcefigpdodlonaaDoor.St
open Go.RowKit
set_option linter.unusedVariables false

theorem run_one_text (W : World) (x : Int) : (convert 39 9 (.slice (some ⟨W.heap.size, 0, none⟩) 1 1)).run Tryd.prog (W.alloc (.cells #[.int .u8 x] 5)) = .ok (.string ⟨#[UInt8.ofNat x.toNat]⟩) (W.alloc (.cells #[.int .u8 x] 5)) := by
  have h := run_text_of (W.alloc (.cells #[.int .u8 x] 5)) 39 9 5 W.heap.size 1 1 (fun _ => .int .u8 x) [x] Tryd.underlying39 Tryd.underlying5 Tryd.underlying9
    ⟨_, heap_alloc_new _ _, rfl, fun i hi => by
      match i, hi with
      | 0, _ => rfl⟩ rfl (fun i hi => by
      match i, hi with
      | 0, _ => rfl)
  exact h
theorem let_of (g : Int) (h0 : 0 ≤ g) (h1 : g ≤ 11) : isLet ⟨#[UInt8.ofNat (97 + g).toNat]⟩ := ⟨g.toNat, by omega, by unfold letS; rw [show (97 + g).toNat = 97 + g.toNat by omega]⟩

section
variable {w W : World} {t : Nat} {L : Lay} {d q : Nat} {st : VSt} {m : Nat} {K : Int → Bool} {R : Int → List Ent} {par : Int → Int}

/-- A tree that a new inode was made for, which its directory doesn't know yet. -/
structure GN (st : VSt) (m : Nat) (K : Int → Bool) (R : Int → List Ent) (par : Int → Int) (g : Int) (s : ByteArray) (isdir : Bool) : Prop where
  g0 : G0 st (m + 1) (updF K ((m : Int) + 1) isdir) (updF (fun j => dirE j (par j) (R j)) ((m : Int) + 1) [])
  gp : GP m K R par
  le : 3 ≤ m ∧ m + 1 ≤ 12
  dg : isD m K g = true
  ls : isLet s
  new : fndB (dirE g (par g) (R g)) s = false
  room : (R g).length + 2 ≤ 6
theorem gn_alloc (S : Std w t L d q st W) (G : GT st m K R par) (hm : m + 1 ≤ 12) (isdir : Bool) (x : Int) (hx : x = if isdir then 1 else 2) (g : Int) (s : ByteArray) (hg : isD m K g = true) (hs : isLet s) (hn : fndB (dEnts st g) s = false) (hr : (R g).length + 2 ≤ 6) :
    Calls Tryd.prog 15 #[.pointer (some ⟨L.v, 0, none⟩), .int .i64 x] W fun e W' => e = .returned (.tuple #[.int .i64 ((m : Int) + 1), .bool true]) ∧ ∃ st', GN st' m K R par g s isdir ∧ Std w t L d q st' W' := by
  rw [G.ents, if_pos hg] at hn
  exact (g0_alloc S G.parts.1 (by omega) isdir x hx).mono fun e W' ⟨a, st', b, c⟩ => ⟨a, st', ⟨b, G.parts.2, ⟨G.le.1, hm⟩, hg, hs, hn, hr⟩, c⟩
theorem gn_entry {g : Int} {s : ByteArray} {isdir : Bool} (N : GN st m K R par g s isdir) : addB (updF (fun j => dirE j (par j) (R j)) ((m : Int) + 1) [] g) s ((m : Int) + 1) = true ∧
    addE (updF (fun j => dirE j (par j) (R j)) ((m : Int) + 1) [] g) s ((m : Int) + 1) = dirE g (par g) (R g ++ [(s, (m : Int) + 1)]) := by
  obtain ⟨i1, i2, i3⟩ := isD_in N.dg
  have hle := N.le
  obtain ⟨u1, u2, u3⟩ := N.gp.up g i1 i2 i3
  rw [updF_other _ _ _ _ (by omega)]
  have hall := dirE_there (R := R g) i1 (by omega) u1 (by omega) (fun e he => by
      obtain ⟨_, k1, k2, _⟩ := N.gp.kids g i1 i2 i3 e he
      exact ⟨k1, by omega⟩)
  have hl : (dirE g (par g) (R g)).length < 8 := by have := N.room; simp [dirE]; omega
  exact add_more hall N.ls.right N.new (by omega) (by omega) hl
theorem gn_file (hM : Mx w) {g : Int} {s : ByteArray} (N : GN st m K R par g s false) (S : Std w t L d q st W) :
    Calls Tryd.prog 16 #[.pointer (some ⟨L.v, 0, none⟩), .int .i64 g, .string s, .int .i64 ((m : Int) + 1)] W fun e W' => e = .returned (.bool true) ∧ ∃ st' K' R' par', GT st' (m + 1) K' R' par' ∧ Std w t L d q st' W' := by
  obtain ⟨i1, i2, i3⟩ := isD_in N.dg
  have h := g0_add hM S N.g0 i1 (by omega) (by have := N.le; omega) (by rw [updF_other _ _ _ _ (by omega)]; exact i3) s ((m : Int) + 1) (by rw [N.ls.size]; decide)
  obtain ⟨a1, a2⟩ := gn_entry N
  rw [a1, a2] at h
  refine h.mono fun e W' ⟨a, st', b, c⟩ => ⟨a, st', _, _, _, GT.mk' (by have := N.le; omega) (b.congr ?_) (N.gp.file ⟨i1, i2⟩ N.ls), c⟩
  intro j j1 j2 hk
  have hj : j ≠ (m : Int) + 1 := by rintro rfl; rw [updF_same] at hk; cases hk
  by_cases e : j = g
  · subst e; rw [updF_same, updF_same]
  · rw [updF_other _ _ _ _ e, updF_other _ _ _ _ hj, updF_other _ _ _ _ e]
/-- The new directory, known by its name, with some of its dots. -/
def GM (st : VSt) (m : Nat) (K : Int → Bool) (R : Int → List Ent) (par : Int → Int) (g : Int) (s : ByteArray) (es : List Ent) : Prop :=
  G0 st (m + 1) (updF K ((m : Int) + 1) true) (updF (updF (fun j => dirE j (par j) (R j)) g (dirE g (par g) (R g ++ [(s, (m : Int) + 1)]))) ((m : Int) + 1) es) ∧ GP m K R par ∧ (3 ≤ m ∧ m + 1 ≤ 12) ∧ isD m K g = true ∧ isLet s
theorem gn_dir (hM : Mx w) {g : Int} {s : ByteArray} (N : GN st m K R par g s true) (S : Std w t L d q st W) :
    Calls Tryd.prog 16 #[.pointer (some ⟨L.v, 0, none⟩), .int .i64 g, .string s, .int .i64 ((m : Int) + 1)] W fun e W' => e = .returned (.bool true) ∧ ∃ st', GM st' m K R par g s [] ∧ Std w t L d q st' W' := by
  obtain ⟨i1, i2, i3⟩ := isD_in N.dg
  have h := g0_add hM S N.g0 i1 (by omega) (by have := N.le; omega) (by rw [updF_other _ _ _ _ (by omega)]; exact i3) s ((m : Int) + 1) (by rw [N.ls.size]; decide)
  obtain ⟨a1, a2⟩ := gn_entry N
  rw [a1, a2] at h
  refine h.mono fun e W' ⟨a, st', b, c⟩ => ⟨a, st', ⟨b.congr ?_, N.gp, N.le, N.dg, N.ls⟩, c⟩
  intro j j1 j2 hk
  by_cases e : j = g
  · subst e; rw [updF_same, updF_other _ _ _ _ (by omega), updF_same]
  · by_cases e2 : j = (m : Int) + 1
    · subst e2; rw [updF_other _ _ _ _ e, updF_same, updF_same]
    · rw [updF_other _ _ _ _ e, updF_other _ _ _ _ e2, updF_other _ _ _ _ e2, updF_other _ _ _ _ e]
theorem gm_dot (hM : Mx w) {g : Int} {s : ByteArray} (N : GM st m K R par g s []) (S : Std w t L d q st W) :
    Calls Tryd.prog 16 #[.pointer (some ⟨L.v, 0, none⟩), .int .i64 ((m : Int) + 1), .string ⟨#[46]⟩, .int .i64 ((m : Int) + 1)] W fun e W' => e = .returned (.bool true) ∧ ∃ st', GM st' m K R par g s [(dotB, (m : Int) + 1)] ∧ Std w t L d q st' W' := by
  obtain ⟨N1, N2, N3, N4, N5⟩ := N
  have h := g0_add hM S N1 (i := (m : Int) + 1) (by omega) (by simp) (by omega) (updF_same _ _ _) dotB ((m : Int) + 1) (by decide)
  obtain ⟨a1, a2⟩ := add_dot (n := (m : Int) + 1) (by omega) (by omega)
  rw [updF_same, a1, a2] at h
  refine h.mono fun e W' ⟨a, st', b, c⟩ => ⟨a, st', ⟨b.congr ?_, N2, N3, N4, N5⟩, c⟩
  intro j j1 j2 hk
  by_cases e2 : j = (m : Int) + 1
  · subst e2; rw [updF_same, updF_same]
  · rw [updF_other _ _ _ _ e2, updF_other _ _ _ _ e2, updF_other _ _ _ _ e2]
theorem gm_dots (hM : Mx w) {g : Int} {s : ByteArray} (N : GM st m K R par g s [(dotB, (m : Int) + 1)]) (S : Std w t L d q st W) :
    Calls Tryd.prog 16 #[.pointer (some ⟨L.v, 0, none⟩), .int .i64 ((m : Int) + 1), .string ⟨#[46, 46]⟩, .int .i64 g] W fun e W' => e = .returned (.bool true) ∧ ∃ st' K' R' par', GT st' (m + 1) K' R' par' ∧ Std w t L d q st' W' := by
  obtain ⟨N1, N2, N3, N4, N5⟩ := N
  obtain ⟨i1, i2, i3⟩ := isD_in N4
  have h := g0_add hM S N1 (i := (m : Int) + 1) (by omega) (by simp) (by omega) (updF_same _ _ _) dotsB g (by decide)
  obtain ⟨a1, a2⟩ := add_dots (n := (m : Int) + 1) (p := g) (by omega) (by omega) i1 (by omega)
  rw [updF_same, a1, a2] at h
  refine h.mono fun e W' ⟨a, st', b, c⟩ => ⟨a, st', _, _, _, GT.mk' (by omega) (b.congr ?_) (N2.dirs ⟨i1, i2⟩ i3 N5), c⟩
  intro j j1 j2 hk
  by_cases e2 : j = (m : Int) + 1
  · subst e2; rw [updF_same, updF_same, updF_same]
  · rw [updF_other _ _ _ _ e2, updF_other _ _ _ _ e2, updF_other _ _ _ _ e2, updF_other _ _ _ _ e2]
    by_cases e : j = g
    · subst e; rw [updF_same, updF_same]
    · rw [updF_other _ _ _ _ e, updF_other _ _ _ _ e]
end

attribute [local irreducible] Int.lt Int.le csN trN
set_option maxRecDepth 100000 in
set_option maxHeartbeats 4000000 in
theorem grown_any (a0 : Option Addr) (len0 cap0 : Nat) (w : World) (w0 : IsMix [.int .i64, .int .i64, .bool] w a0 len0 cap0) (hM : Mx w) :
    Calls Tryd.prog 9 #[.slice a0 len0 cap0] w fun e W => ∃ t d q, ∃ L : Lay, e = .returned (.pointer (some ⟨t, 0, none⟩)) ∧ ∃ st m K R par, GT st m K R par ∧ Std w t L d q st W := by
  have hone := run_one_text
  go_enter Tryd.func9, Tryd.ntmps9
  go_wp2_with fail
  refine (tree_any _ hM).mono ?_; rintro e W1 ⟨t, d, q, L, rfl, st1, H1, S1⟩
  have G1 := H1.gt
  clear H1
  go_wp2_with fail
  go_loopw [4] (fun k wr => ∃ (j : Nat) (st : VSt) (m : Nat) (K : Int → Bool) (R : Int → List Ent) (par : Int → Int), j ≤ 9 ∧ k = .int .i64 (j : Int) ∧ GT st m K R par ∧ m ≤ 3 + j ∧ Std w t L d q st wr) (fun k _ => 9 - (intOf k).toNat)
  case atStart => exact ⟨0, st1, 3, _, _, _, by omega, rfl, G1, by omega, S1⟩
  case round =>
    clear G1 S1
    obtain ⟨j, st, m, K, R, par, j1, rfl, G, hm, S⟩ := hrel
    have c6 := S.cell
    by_cases hlt : j < len0 ∧ j < 9
    · rcases w0 with ⟨_, q2, _⟩ | ⟨x, rfl, x1, x2, hx⟩
      · omega
      obtain ⟨_, ⟨n0, rfl, _⟩, z0⟩ := mix_first hx 3 rfl j hlt.1 _ rfl
      obtain ⟨_, ⟨n1, rfl, _⟩, z1⟩ := mix_field hx 3 rfl j hlt.1 1 _ rfl (by omega)
      obtain ⟨_, ⟨fb, rfl⟩, z2⟩ := mix_field hx 3 rfl j hlt.1 2 _ rfl (by omega)
      have y0 := z0 _ S.b
      have y1 := z1 _ S.b
      have l1 : (j : Int) < len0 := by omega
      have l2 : (j : Int) < 9 := by omega
      have Z2 := Lib.hid z2
      clear z0 z1 z2
      go_wp2_with fail
      have wb := Fp.within_bounds n0 1 12 (by omega)
      refine (Fp.within_any n0 1 12 (by omega) (by omega) (by omega) _).mono ?_; rintro e Wx ⟨rfl, rfl⟩
      generalize Fp.withinI n0 1 12 = g at *
      have g1 : 1 ≤ g := wb.1
      have g2 : g ≤ 12 := wb.2
      clear wb
      go_wp2_with fail
      have wb := Fp.within_bounds n1 0 3 (by omega)
      refine (Fp.within_any n1 0 3 (by omega) (by omega) (by omega) _).mono ?_; rintro e Wx ⟨rfl, rfl⟩
      generalize Fp.withinI n1 0 3 = h at *
      have h1 : 0 ≤ h := wb.1
      have h2 : h ≤ 3 := wb.2
      have hlet := let_of h h1 (by omega)
      clear wb
      have bA : Below wr.heap.size wr (wr.alloc (Obj.cells #[Value.int IntKind.u8 (97 + h)] 5)) := (Below.refl _ _).alloc (Nat.le_refl _) _
      have S2 := S.below bA
      have c2 := S2.cell
      go_wp2_with fail
      clear S bA c6 y0 y1
      generalize wr.alloc (Obj.cells #[Value.int IntKind.u8 (97 + h)] 5) = W4 at *
      generalize (⟨#[UInt8.ofNat (97 + h).toNat]⟩ : ByteArray) = s at *
      have hf := g_find hM S2 G g s (by rw [hlet.size]; decide)
      have hcase : fndB (dEnts st g) s = true ∨ (fndB (dEnts st g) s = false ∧ isD m K g = false) ∨ (fndB (dEnts st g) s = false ∧ isD m K g = true ∧ 6 < (R g).length + 2) ∨ (fndB (dEnts st g) s = false ∧ isD m K g = true ∧ (R g).length + 2 ≤ 6) := by
        cases fndB (dEnts st g) s
        · cases isD m K g
          · simp
          · simp; omega
        · simp
      rcases hcase with hA | ⟨hA, hB⟩ | ⟨hA, hB, hC⟩ | ⟨hA, hB, hC⟩
      · rw [hA] at hf
        generalize fndN (dEnts st g) s = y at *
        clear hA
        refine hf.mono ?_; rintro e W5 ⟨rfl, st5, G5, _, S5⟩
        clear hf S2 c2 G
        go_wp2_with fail
        exact ⟨⟨j + 1, st5, m, K, R, par, by omega, by go_num, G5, by omega, S5⟩, by simp [intOf]; omega⟩
      · rw [hA] at hf
        generalize fndN (dEnts st g) s = y at *
        clear hA
        refine hf.mono ?_; rintro e W5 ⟨rfl, st5, G5, _, S5⟩
        have c5 := S5.cell
        have hi := g_is S5 G5 g
        rw [hB] at hi
        clear hf S2 c2 G hB
        go_wp2_with fail
        refine hi.mono ?_; rintro e W6 ⟨rfl, st6, G6, _, S6⟩
        clear hi S5 c5 G5
        go_wp2_with fail
        exact ⟨⟨j + 1, st6, m, K, R, par, by omega, by go_num, G6, by omega, S6⟩, by simp [intOf]; omega⟩
      · rw [hA] at hf
        generalize fndN (dEnts st g) s = y at *
        clear hA
        refine hf.mono ?_; rintro e W5 ⟨rfl, st5, G5, _, S5⟩
        have c5 := S5.cell
        have hi := g_is S5 G5 g
        rw [hB] at hi
        clear hf S2 c2 G
        go_wp2_with fail
        refine hi.mono ?_; rintro e W6 ⟨rfl, st6, G6, _, S6⟩
        have c6 := S6.cell
        clear hi S5 c5 G5
        have hC2 : (6 : Int) < (((R g).length + 2 : Nat) : Int) := by omega
        have hN := g_names hM S6 G6 hB
        generalize (R g).length + 2 = nn at *
        go_wp2_with fail
        refine hN.mono ?_; rintro e W7 ⟨a, c, rfl, st7, G7, _, S7⟩
        clear hN S6 c6 G6
        go_wp2_with fail
        exact ⟨⟨j + 1, st7, m, K, R, par, by omega, by go_num, G7, by omega, S7⟩, by simp [intOf]; omega⟩
      · rw [hA] at hf
        generalize fndN (dEnts st g) s = y at *
        refine hf.mono ?_; rintro e W5 ⟨rfl, st5, G5, e5, S5⟩
        have c5 := S5.cell
        have hi := g_is S5 G5 g
        rw [hB] at hi
        rw [← e5] at hA
        clear hf S2 c2 G
        go_wp2_with fail
        refine hi.mono ?_; rintro e W6 ⟨rfl, st6, G6, e6, S6⟩
        have c6 := S6.cell
        rw [← e6] at hA
        clear hi S5 c5 G5 e5
        have hC2 : decide ((6 : Int) < (((R g).length + 2 : Nat) : Int)) = false := by simp; omega
        have hN := g_names hM S6 G6 hB
        go_wp2_with fail
        obtain ⟨nn, hnn⟩ : ∃ nn, nn = (R g).length + 2 := ⟨_, rfl⟩
        rw [← hnn] at hN hC2
        refine hN.mono ?_; rintro e W7 ⟨a, c, rfl, st7, G7, e7, S7⟩
        have c7 := S7.cell
        rw [← e7] at hA
        have y2 := Z2.out _ S7.b
        have HC := Lib.hid hC
        have HA := Lib.hid hA
        clear hN S6 c6 G6 e6 hnn hC hA e7
        cases fb with
        | true =>
          go_wp2_with fail
          refine (gn_alloc S7 G7 (by omega) false 2 rfl g s hB hlet HA.out HC.out).mono ?_; rintro e W8 ⟨rfl, st8, G8, S8⟩
          have c8 := S8.cell
          have y3 := Z2.out _ S8.b
          have hB2 := Lib.hid hB
          clear S7 c7 y2 G7 hC2 hB
          go_wp2_with fail
          refine (gn_file hM G8 S8).mono ?_; rintro e W9 ⟨rfl, st9, K9, R9, par9, G9, S9⟩
          have y4 := Z2.out _ S9.b
          clear S8 c8 G8 y3
          go_wp2_with fail
          exact ⟨⟨j + 1, st9, m + 1, K9, R9, par9, by omega, by go_num, G9, by omega, S9⟩, by simp [intOf]; omega⟩
        | false =>
          go_wp2_with fail
          refine (gn_alloc S7 G7 (by omega) true 1 rfl g s hB hlet HA.out HC.out).mono ?_; rintro e W8 ⟨rfl, st8, G8, S8⟩
          have c8 := S8.cell
          have y3 := Z2.out _ S8.b
          have hB2 := Lib.hid hB
          clear S7 c7 y2 G7 hC2 hB
          go_wp2_with fail
          refine (gn_dir hM G8 S8).mono ?_; rintro e W9 ⟨rfl, st9, G9, S9⟩
          have y4 := Z2.out _ S9.b
          have c9 := S9.cell
          clear S8 c8 G8 y3
          go_wp2_with fail
          refine (gm_dot hM G9 S9).mono ?_; rintro e Wa ⟨rfl, sta, Ga, Sa⟩
          have ca := Sa.cell
          clear S9 c9 G9 y4
          go_wp2_with fail
          refine (gm_dots hM Ga Sa).mono ?_; rintro e Wb ⟨rfl, stb, Kb, Rb, parb, Gb, Sb⟩
          clear Sa ca Ga
          go_wp2_with fail
          exact ⟨⟨j + 1, stb, m + 1, Kb, Rb, parb, by omega, by go_num, Gb, by omega, Sb⟩, by simp [intOf]; omega⟩
    · clear w0
      rcases (show (len0 ≤ j ∧ (len0 : Int) ≤ j) ∨ (j < len0 ∧ (j : Int) < len0 ∧ (9 : Int) ≤ j) by omega) with ⟨l1, l2⟩ | ⟨l1, l2, l3⟩
      all_goals
        go_wp2_with fail
        go_ret
        exact ⟨t, d, q, L, rfl, st, m, K, R, par, G, S⟩
end Go.Proofs.YtcefigpdodlonaaDoor.St
