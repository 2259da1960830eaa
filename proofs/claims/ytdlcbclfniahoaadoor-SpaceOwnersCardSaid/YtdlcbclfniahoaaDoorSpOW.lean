/- The walk of cloisterlaw16.SpaceOwners. Where the library's table holds what its initialiser lays. -/
import Derived.Test.YtdlcbclfniahoaaDoorOwM
import Derived.Test.YtdlcbclfniahoaaDoorLawKit
import Derived.Deep.Cut
import Derived.Deep.CutRange
import Derived.Deep.RegionHeld3
import Derived.Deep.DrawnRows
namespace Go.Proofs.YtdlcbclfniahoaaDoor.St
open Go.RowKit
set_option linter.unusedVariables false

theorem IL.nr2 {B : Nat} {W : World} {v : Value} {ps : List Int} (h : IL B W v ps) : ∃ a cap, v = .slice a ps.length cap ∧ NR W a ps ∧ (a = none → ps = [] ∧ cap = 0) ∧ ps.length ≤ cap := by
  obtain ⟨a, cap, e, hn⟩ := h.nr
  refine ⟨a, cap, e, hn, fun ha => ?_, ?_⟩
  · subst ha
    rcases h.2 with ⟨q, q0⟩ | ⟨g, cap', cur, h1, _⟩
    · rw [e] at q
      exact ⟨List.length_eq_zero_iff.1 q0, by simpa [q0] using q⟩
    · rw [e] at h1; cases h1
  · rcases h.2 with ⟨q, q0⟩ | ⟨g, cap', cur, h1, _, _, h4, _⟩
    · rw [q0]; omega
    · rw [e] at h1; cases h1; exact h4
theorem IL.maps {B : Nat} {W W' : World} {v : Value} {ps : List Int} {L : Lay} {st : VSt} (h : IL B W v ps) (hV : ViewAt W L st) (t : Maps L W W') : IL B W' v ps := by
  refine ⟨h.1, ?_⟩
  rcases h.2 with q | ⟨g, cap, cur, h1, h2, h3, h4⟩
  · exact Or.inl q
  · obtain ⟨_, _, hr, _⟩ := hV.cr
    obtain ⟨_, _, hm, _⟩ := hV.cm
    exact Or.inr ⟨g, cap, cur, h1, h2, blk_of_turn t h3 (fun q => by
      rcases q with q | q
      · exact cells_ne_map h3 hr q
      · exact cells_ne_map h3 hm q), h4⟩
theorem nr0 {W : World} {a : Option Addr} {zs : List Int} (h : zs.length = 0) : NR W a zs := fun i hi => by omega
theorem Std.offD {w W W' : World} {t : Nat} {L : Lay} {d q : Nat} {st : VSt} (S : Std w t L d q st W) {B : Nat} (h : Turn (· = B) W W') (hb : w.heap.size ≤ B) (hl : L.v ≠ B ∧ L.s ≠ B ∧ L.l ≠ B ∧ L.r ≠ B ∧ L.m ≠ B) (ht : t ≠ B) : Std w t L d q st W' := by
  refine ⟨S.v.keep h ?_, blk_of_turn h S.t (fun e => ht e), S.b.trans (h.below (B := w.heap.size) S.b.size (fun i p => by have : i = B := p; omega)), S.r, S.m⟩
  rintro i rfl
  obtain ⟨a, b, c, e, f⟩ := hl
  exact ⟨Ne.symm a, Ne.symm b, Ne.symm c, Ne.symm e, Ne.symm f⟩
theorem Std.grown {w W W' : World} {t : Nat} {L : Lay} {d q : Nat} {st : VSt} {v : Value} {ps : List Int} (S : Std w t L d q st W) (h : IL w.heap.size W v ps) (g : W.grownBy W' v.ownBlock) : Std w t L d q st W' := by
  rcases h.2 with ⟨e, _⟩ | ⟨gb, cap, cur, e, hb, hg, _⟩
  · rw [e] at g
    exact S.below ⟨g.os, g.tape, g.output, g.size, fun i hi => g.block i hi (by intro q; cases q)⟩
  · rw [e] at g
    have T : Turn (· = gb) W W' := ⟨g.os, g.tape, g.output, g.size, fun i hi hn => g.block i hi (fun q => hn (by simpa [Value.ownBlock] using q))⟩
    obtain ⟨_, _, hr, _⟩ := S.v.cr
    obtain ⟨_, _, hm, _⟩ := S.v.cm
    obtain ⟨_, hl, _⟩ := S.v.sa.cl
    refine S.offD T hb ⟨?_, ?_, ?_, Ne.symm (cells_ne_map hg hr), Ne.symm (cells_ne_map hg hm)⟩ ?_
    · intro q
      have hh := S.v.cv
      rw [q, hg] at hh
      simp at hh
    · intro q
      have hh := S.v.sa.cs
      rw [q, hg] at hh
      simp at hh
    · intro q
      rw [q, hg] at hl
      simp at hl
    · intro q
      have hh : W.heap[t]? = _ := S.t
      rw [q, hg] at hh
      simp at hh
theorem noughts_at (c j : Nat) (h : j < (noughts c).size) : (noughts c)[j]'h = 0 := by
  have e : ∀ c, Lib.repeatL [(0 : UInt8)] c = List.replicate c 0 := by
    intro c
    induction c with
    | zero => rfl
    | succ c ih => rw [Lib.repeatL, ih]; rfl
  show ((Lib.repeatL [(0 : UInt8)] c).toArray)[j]'_ = 0
  simp [e]
theorem IL.offM {B BM : Nat} {W W' : World} {v : Value} {ps : List Int} {c : Nat → Nat} {n : Nat} (h : IL B W v ps) (cm : CM W BM c n) (t : Turn (· = BM) W W') : IL B W' v ps := by
  refine ⟨h.1, ?_⟩
  rcases h.2 with q | ⟨g, cap, cur, h1, h2, h3, h4⟩
  · exact Or.inl q
  · obtain ⟨_, ⟨es, ck, hm, _⟩, _⟩ := cm
    exact Or.inr ⟨g, cap, cur, h1, h2, blk_of_turn t h3 (cells_ne_map h3 hm), h4⟩
theorem NR.offM {BM : Nat} {W W' : World} {a : Option Addr} {zs : List Int} {c : Nat → Nat} {n : Nat} (h : NR W a zs) (cm : CM W BM c n) (t : Turn (· = BM) W W') : NR W' a zs := fun i hi => by
  obtain ⟨x, e, cc⟩ := h i hi
  obtain ⟨_, ⟨es, ck, hm, _⟩, _⟩ := cm
  have hlt := World.block_lt_of_cell? _ _ cc
  have hne : ¬((x.add i).block = BM) := by
    intro q
    unfold World.cell? at cc; rw [q, hm] at cc; simp at cc
  refine ⟨x, e, ?_⟩
  rw [World.cell?_of_block (t.block (x.add i).block (by simpa using hlt) hne)]
  exact cc
theorem bit_val (x : Int) (j : Nat) : bits .and .i64 (x / 2 ^ j) 1 = ((b01 (usedI x j) : Nat) : Int) := by
  have h := used_not x j
  cases hu : usedI x j with
  | true =>
    have : (bits BinOp.and IntKind.i64 (x / 2 ^ j) 1 == 1) = true := hu
    exact beq_iff_eq.1 this
  | false =>
    rw [hu] at h
    exact beq_iff_eq.1 h
theorem CM.maps {W W' : World} {B : Nat} {c : Nat → Nat} {n : Nat} {L : Lay} (h : CM W B c n) (t : Maps L W W') (lt : L.r < B ∧ L.m < B) : CM W' B c n := h.keep (t.block B h.lt (by omega))
/-- How many have a page, of the first k processes. -/
def cntP (a : SpS) (k : Nat) (g : Nat) : Nat := (if 0 < k then (pgA a 0).count (g : Int) else 0) + (if 1 < k then (pgA a 1).count (g : Int) else 0)
theorem cntP_succ (a : SpS) (k : Nat) (hk : k < 2) (g : Nat) : cntP a (k + 1) g = cntP a k g + (pgA a (k : Int)).count (g : Int) := by
  rcases (by omega : k = 0 ∨ k = 1) with rfl | rfl
  · simp [cntP]
  · simp [cntP]
theorem s_pool {w W : World} {t : Nat} {L : Lay} {d q : Nat} {st : VSt} {a : SpS} (S : Std w t L d q st W) (R : SR st a) :
    Calls Tryd.prog 15 #[.pointer (some ⟨L.v, 0, none⟩), keyV 2 0] W fun e W' => ∃ z : Val, e = .returned (.agg z.cells) ∧ z.n 0 = a.f ∧ ∃ st', SR st' a ∧ Std w t L d q st' W' ∧ Maps L W W' :=
  (vget_any L st 2 0 W S.v).mono fun e W' ⟨h1, h2, h3⟩ => ⟨_, h1, R.f, _, R.congr fun k j => get_saw _ _ _ _ _, S.step h2 (h3.mono fun _ _ => Or.inl), h3.mono fun _ _ => Or.inl⟩
attribute [local go_sem] run_fieldN run_indexN run_fieldS
attribute [local go_sem] blk_alloc_at blk_alloc_past blk_drew blk_drewN blk_setB_same blk_setB_other blk_setRow_other setRow_alloc_at setRow_alloc_past setRow_drewN setRow_drew setB_size setB_cell setB_frozen setB_alloc_past setB_drewN setB_drew run_loadV loadOr_cells run_storeV storeOr_cells cells_size ones_cells cells_0 cells_1 cells_2 cells_16
attribute [local go_sem ↓] execOp_loadV execOp_storeV
attribute [local go_sem ↓] wp_at0 wp_at1 wp_at2 wp_at3 wp_at4 wp_at5 wp_at6 wp_at7 wp_at8 wp_at9
attribute [local go_sem ↓] Go.wp_at_zero Go.wp_at_succ
attribute [local irreducible] Int.lt Int.le
set_option maxRecDepth 100000 in
set_option maxHeartbeats 40000000 in
theorem spaceOwners_walk (a0 : Int) (a1 : Option Addr) (len1 cap1 : Nat) (z1 : Nat → Nat → Int) (w : World) (w0 : (Lit.int .i64 a0).wf = true) (w1 : IsRows 3 w a1 len1 cap1 z1) (hM : Bx w) :
    Calls Tryd.prog 4 #[.int .i64 a0, .slice a1 len1 cap1] w fun e w' => e = .returned (.bool true) ∧ Below w.heap.size w w' := by
  have hz := zero_val
  have HW0 := Lib.hid w0
  clear w0
  go_enter Tryd.func4, Tryd.ntmps4
  go_wp2_with fail
  refine (lpool_any _ _).mono ?_; rintro e W0 ⟨t, d, q, L, rfl, S0⟩
  have R0 : SR _ (pS a0) := pl2_SR _
  have c0 := S0.cell
  have I0 := OI.start a0
  go_wp2_with fail
  go_loopw [7, 8] (fun way i wr => ∃ (j : Nat) (st : VSt) (a : SpS) (wl : List Int), j ≤ 30 ∧ i = .int .i64 (j : Int) ∧ SR st a ∧ Std w t L d q st wr ∧ OI a0 a wl ∧ IL w.heap.size wr way wl ∧ wl.length ≤ 4 * j) (fun _ i _ => 30 - (intOf i).toNat)
  case atStart => exact ⟨0, _, _, [], by omega, rfl, R0, S0, I0, IL.nil _ _, by simp⟩
  case round =>
    as_aux_lemma =>
      clear S0 R0 c0 I0
      obtain ⟨j, st1, a, wl, hj, rfl, R1, S1, I1, il1, hwl⟩ := hrel
      have j0 : (0 : Int) ≤ (j : Int) := by omega
      have hwl1 : wl.length ≤ 1000 := by omega
      have hwl2 : (wl.length : Int) ≤ 200 := by omega
      by_cases hlt : j < len1 ∧ j < 30
      · rcases w1 with ⟨_, q2, _⟩ | ⟨x, rfl, x1, x2, hx⟩
        · omega
        have hzr := (rows_field hx S1.b j hlt.1).1
        have p1 := hzr 1 (by omega) (by omega)
        have p2 := hzr 2 (by omega) (by omega)
        have q0 := (rows_field hx S1.b j hlt.1).2 (by omega)
        have l1 : (j : Int) < len1 := by omega
        have l2 : (j : Int) < 30 := by omega
        clear hzr
        go_upto_region 9 with fail
        have hlt1 := hlt.1
        go_quiet ((go_at_call 14; exact quiet_left (Fp.within_any _ _ _ (by omega) (by omega) (by omega) _)))
        have kp := Fp.within_bounds (z1 j 1) 0 1 (by omega)
        have kn := Fp.within_bounds (z1 j 2) 0 4 (by omega)
        generalize Fp.withinI (z1 j 1) 0 1 = p0 at *
        generalize Fp.withinI (z1 j 2) 0 4 = n at *
        obtain ⟨P, rfl⟩ := Int.eq_ofNat_of_zero_le kp.1
        have hP : P < 2 := by omega
        have pP0 : (0 : Int) ≤ (P : Int) := kp.1
        have pP1 : (P : Int) < 2 := by omega
        have Sd := S1.drewN nq
        have ild : IL w.heap.size (wr.drewN nq) u7 wl := il1.below ⟨rfl, rfl, rfl, Nat.le_refl _, fun _ _ => rfl⟩
        clear S1 il1 p1 p2 q0
        generalize wr.drewN nq = W1 at *
        have zX : ∀ p, p < 2 → (a.X p).size ≤ 1000 := fun p hp => by have := I1.x p hp; omega
        have zM : ∀ p, p < 2 → (a.M p).size ≤ 1000 := fun p hp => by rw [I1.m p hp, noughts_size]; have := I1.x p hp; omega
        have h10 := s_pages Sd R1 zX (P : Int) ⟨pP0, pP1⟩
        go_wp2_with fail
        refine h10.mono ?_; rintro e W2 ⟨vw, rfl, il2, st2, R2, S2, t2⟩
        have ild := ild.maps Sd.v t2
        have zW1 := Sd.b.size
        have il2 := il2.mono zW1
        clear Sd R1 h10 t2
        go_wp2_with fail
        refine (s_free S2 R2).mono ?_; rintro e W3 ⟨rfl, st3, R3, S3, t3⟩
        have ild := ild.maps S2.v t3
        have il2 := il2.maps S2.v t3
        have c0 := (rows_field hx S3.b j hlt.1).2 (by omega)
        clear S2 R2
        obtain ⟨many, hmany⟩ : ∃ m, m = ones64 (IntKind.u64.wrap a.f) := ⟨_, rfl⟩
        rw [← hmany]
        have hmb := ones_bounds a.f
        rw [← hmany] at hmb
        have Hmany := Lib.hid hmany
        clear hmany
        obtain ⟨aw, cw, rfl, nw, hw0, hcw⟩ := il2.nr2
        iterate 12 first | go_values | go_skip | go_guarded | go_step | go_upon | go_back | go_simp
        go_cut [7, 9, 10, 11, 12] from 34 to 223 (fun way _ _ _ _ wx => ∃ (st : VSt) (a' : SpS) (wl' : List Int), SR st a' ∧ Std w t L d q st wx ∧ OI a0 a' wl' ∧ IL w.heap.size wx way wl' ∧ wl'.length ≤ 4 * (j + 1))
        case first =>
          have hk : z1 j 0 = 2 ∨ (z1 j 0 ≠ 2 ∧ z1 j 0 = 3) ∨ (z1 j 0 ≠ 2 ∧ z1 j 0 ≠ 3) := by omega
          have HC0 := Lib.hid c0
          clear c0
          rcases hk with hk | ⟨hk, hk3⟩ | ⟨hk, hk3⟩
          · as_aux_lemma =>
              have c0 := HC0.out
              rw [hk] at c0
              obtain ⟨N, rfl⟩ := Int.eq_ofNat_of_zero_le kn.1
              have n0 : (0 : Int) ≤ (N : Int) := kn.1
              have hlw := pgA_len a P hP
              have hl6 := I1.x P hP
              rw [← hlw] at hl6
              have I4 := I1.shrink (P : Int) (N : Int)
              have hW4 : hW a (P : Int) (N : Int) = if hOk a (P : Int) (N : Int) = true then hL a (P : Int) (N : Int) else [] := rfl
              have h11 := s_shrink S3 R3 zX zM (P : Int) (N : Int) (by omega)
              go_wp2_with fail
              refine h11.mono ?_; rintro e W4 ⟨v4, rfl, il4, st4, R4, S4, t4⟩
              have ild4 := ild.maps S3.v t4
              have nw4 := nw.maps S3.v t4
              clear S3 R3 ild nw t4 h11 il2 I1 Hmany hmb HC0 c0
              cases hk4 : hOk a (P : Int) (N : Int) with
              | true =>
                as_aux_lemma =>
                  have hN := (hOk_in hk4).2.2.2
                  rw [Int.toNat_natCast, ← hlw] at hN
                  have hdrop := hL_drop a P hP (N : Int) hk4
                  rw [Int.toNat_natCast] at hdrop
                  have il := il4.1 hk4
                  obtain ⟨ax, cx, rfl, nx, hx0, hcx⟩ := il.nr2
                  have hxl : (hL a (P : Int) (N : Int)).length = N := by rw [hdrop, List.length_drop]; omega
                  rw [hk4, if_pos rfl] at hW4
                  rw [hW4] at I4
                  have HI4 := Lib.hid I4
                  clear il4 hk4 hW4 I4 hlw zX zM
                  generalize hA a (P : Int) (N : Int) = a4 at *
                  generalize hL a (P : Int) (N : Int) = xs at *
                  generalize pgA a (P : Int) = ws at *
                  have hN1 : (N : Int) ≤ (ws.length : Int) := hN
                  obtain ⟨K, hK⟩ : ∃ K : Nat, (ws.length : Int) - (N : Int) = (K : Int) := ⟨ws.length - N, by omega⟩
                  have hk0 : (0 : Int) ≤ (K : Int) := by omega
                  have hk1 : (K : Int) ≤ (ws.length : Int) := by omega
                  have hk3 : (K : Int) ≤ 6 := by omega
                  have hl6' : (ws.length : Int) ≤ 6 := by omega
                  have hk2 : (K : Int) ≤ (cw : Int) := by omega
                  have hws : (ws.length : Int) ≤ (cw : Int) := by omega
                  have hxs : ws.length - K = xs.length := by omega
                  rw [show ws.length - N = K by omega] at hdrop
                  have HD := Lib.hid hdrop
                  have HX := Lib.hid hxl
                  clear hdrop hxl
                  cases aw with
                  | none =>
                    as_aux_lemma =>
                      obtain ⟨rfl, rfl⟩ := hw0 rfl
                      obtain rfl : xs = [] := by rw [HD.out]; simp
                      obtain rfl : N = 0 := HX.out.symm
                      go_wp2_with fail
                      refine (sameI_yes ax none cx 0 [] W4 (by decide) nx (nr0 rfl)).mono ?_; rintro e W5 ⟨rfl, q5, rfl⟩
                      have ild5 : IL w.heap.size (W4.drewN q5) u7 wl := ild4.below ⟨rfl, rfl, rfl, Nat.le_refl _, fun _ _ => rfl⟩
                      have S5 := S4.drewN q5
                      obtain ⟨v6, W6, hrun, il6, b6, g6⟩ := il_append (ps := []) ild5 S5.b.size ax cx (nx.drewN q5) (fun q => ⟨rfl, (hx0 q).2⟩) (by simp; omega) 31
                      have S6 := S5.grown ild5 g6
                      have HS6 := Lib.hid S6
                      have HIL := Lib.hid il6
                      have hlen : (wl ++ ([] : List Int)).length ≤ 4 * (j + 1) := by rw [List.length_append]; simp; omega
                      clear ild5 S5 S4 ild4 nx g6 b6 S6 il6
                      generalize W4.drewN q5 = W5 at *
                      go_wp2_with (first | (at_builtin; refine wpList_run_append rfl _ _ _ rfl rfl rfl hrun ?_) | fail)
                      go_meet
                      case rel => exact ⟨_, _, _, R4, HS6.out, HI4.out, HIL.out, hlen⟩
                  | some xw =>
                    as_aux_lemma =>
                      have nd : NR W4 (some (xw.add K)) xs := by rw [HD.out]; exact nw4.drop K
                      clear nw4
                      go_wp2_with fail
                      all_goals
                        refine (sameI_yes ax _ cx _ xs W4 (by omega) nx (by first | exact nd | exact nr0 (by omega))).mono ?_; rintro e W5 ⟨rfl, q5, rfl⟩
                        have ild5 : IL w.heap.size (W4.drewN q5) u7 wl := ild4.below ⟨rfl, rfl, rfl, Nat.le_refl _, fun _ _ => rfl⟩
                        have S5 := S4.drewN q5
                        obtain ⟨v6, W6, hrun, il6, b6, g6⟩ := il_append ild5 S5.b.size ax cx (nx.drewN q5) hx0 (by have := HX.out; omega) 31
                        have S6 := S5.grown ild5 g6
                        have HS6 := Lib.hid S6
                        have HIL := Lib.hid il6
                        have hlen : (wl ++ xs).length ≤ 4 * (j + 1) := by rw [List.length_append]; have := HX.out; omega
                        clear ild5 S5 S4 ild4 nd nx g6 b6 S6 il6
                        generalize W4.drewN q5 = W5 at *
                        go_wp2_with (first | (at_builtin; refine wpList_run_append rfl _ _ _ rfl rfl rfl hrun ?_) | fail)
                        go_meet
                        case rel => exact ⟨_, _, _, R4, HS6.out, HI4.out, HIL.out, hlen⟩
              | false =>
                as_aux_lemma =>
                  obtain rfl := il4.2 hk4
                  have hN : ¬ (N : Int) ≤ ((pgA a (P : Int)).length : Int) := by
                    intro q
                    unfold hOk at hk4
                    have := of_decide_eq_false hk4
                    rw [Int.toNat_natCast, ← hlw] at this
                    omega
                  rw [hk4, if_neg (by decide)] at hW4
                  rw [hW4] at I4
                  have HI4 := Lib.hid I4
                  have hw6 : ((pgA a (P : Int)).length : Int) ≤ 6 := by omega
                  clear il4 hk4 hW4 I4 hlw zX zM nw4 hw0 hcw
                  generalize hA a (P : Int) (N : Int) = a4 at *
                  generalize pgA a (P : Int) = ws at *
                  obtain ⟨v6, W6, hrun, il6, b6, g6⟩ := il_append ild4 S4.b.size none 0 (ps := []) (nr0 rfl) (fun _ => ⟨rfl, rfl⟩) (by simp; omega) 31
                  have S6 := S4.grown ild4 g6
                  have HS6 := Lib.hid S6
                  have HIL := Lib.hid il6
                  have hlen : (wl ++ ([] : List Int)).length ≤ 4 * (j + 1) := by rw [List.length_append]; simp; omega
                  clear S4 ild4 g6 b6 S6 il6
                  go_wp2_with (first | (at_builtin; refine wpList_run_append rfl _ _ _ rfl rfl rfl hrun ?_) | fail)
                  go_meet
                  case rel => exact ⟨_, _, _, R4, HS6.out, HI4.out, HIL.out, hlen⟩
          · as_aux_lemma =>
              have c0 := HC0.out
              rw [hk3] at c0
              obtain ⟨ay, cy, rfl, ny, _, _⟩ := ild.nr2
              obtain ⟨I5, I6⟩ := I1.back
              rw [← Hmany.out] at I6
              have HI5 := Lib.hid I5
              have h11 := s_back S3 R3 ay cy wl hwl1 ny
              clear I1 I5 ild il2 zX zM nw hw0 hcw Hmany HC0 R3
              go_wp2_with fail
              refine h11.mono ?_; rintro e W4 ⟨rfl, st4, R4, S4, _⟩
              clear h11 S3
              go_wp2_with fail
              refine (s_free S4 R4).mono ?_; rw [I6]; rintro e W5 ⟨rfl, st5, R5, S5, _⟩
              clear R4 S4 ny I6
              have HR := Lib.hid R5
              have HS := Lib.hid S5
              clear R5 S5
              go_wp2_with fail
              go_meet
              case rel => exact ⟨_, _, [], HR.out, HS.out, HI5.out, IL.nil _ _, by simp⟩
          · as_aux_lemma =>
              have c0 := HC0.out
              obtain ⟨N, rfl⟩ := Int.eq_ofNat_of_zero_le kn.1
              have n0 : (0 : Int) ≤ (N : Int) := kn.1
              have hlw := pgA_len a P hP
              have hl6 := I1.x P hP
              rw [← hlw] at hl6
              have hl6' : ((pgA a (P : Int)).length : Int) ≤ 6 := by clear Hmany hmb; omega
              have I4 := I1.grow (P : Int) (N : Int)
              obtain ⟨l, hl⟩ := grow_pages a P hP (N : Int)
              have hy6 := I4.x P hP
              rw [← pgA_len _ P hP] at hy6
              have zX4 : ∀ p, p < 2 → ((gA a (P : Int) (N : Int)).X p).size ≤ 1000 := fun p hp => by have := I4.x p hp; clear Hmany hmb; omega
              have h11 := s_grow S3 R3 hM zX zM (P : Int) (N : Int) (by clear Hmany hmb; omega)
              have hg : gOk a (P : Int) (N : Int) = (decide ((N : Int) ≤ many) && decide ((N : Int) ≤ 6 - ((pgA a (P : Int)).length : Int))) := by
                unfold gOk
                rw [Int.toNat_natCast, ← Hmany.out, hlw, Bool.eq_iff_iff]
                simp only [Bool.and_eq_true, decide_eq_true_eq]
                clear Hmany hmb
                omega
              rw [hg] at h11
              have hm1 : (0 : Int) ≤ many := hmb.1
              have hm2 : many ≤ 64 := hmb.2
              have HI4 := Lib.hid I4
              have HL := Lib.hid hl
              have HM := Lib.hid hM
              clear I1 I4 hl il2 zX zM hw0 hcw Hmany HC0 hg R3 hmb hlw hM
              generalize gA a (P : Int) (N : Int) = a4 at *
              generalize pgA a (P : Int) = ws at *
              obtain ⟨bo, hbo⟩ : ∃ bo, bo = (decide ((N : Int) ≤ many) && decide ((N : Int) ≤ 6 - (ws.length : Int))) := ⟨_, rfl⟩
              rw [← hbo] at h11
              have hc : (bo = true ∧ (N : Int) ≤ many ∧ (N : Int) ≤ 6 - (ws.length : Int)) ∨ (bo = false ∧ ¬ (N : Int) ≤ many) ∨ (bo = false ∧ (N : Int) ≤ many ∧ ¬ (N : Int) ≤ 6 - (ws.length : Int)) := by
                rw [hbo]
                by_cases q1 : (N : Int) ≤ many
                · by_cases q2 : (N : Int) ≤ 6 - (ws.length : Int)
                  · exact Or.inl ⟨by rw [decide_eq_true q1, decide_eq_true q2]; rfl, q1, q2⟩
                  · exact Or.inr (Or.inr ⟨by rw [decide_eq_false q2, Bool.and_false], q1, q2⟩)
                · exact Or.inr (Or.inl ⟨by rw [decide_eq_false q1, Bool.false_and], q1⟩)
              clear hbo
              rcases hc with ⟨rfl, d2, d4⟩ | ⟨rfl, d2⟩ | ⟨rfl, d2, d4⟩
              all_goals
                go_wp2_with fail
                refine h11.mono ?_; rintro e W4 ⟨rfl, st4, R4, S4, t4⟩
                have ild4 := ild.maps S3.v t4
                have nw4 := nw.maps S3.v t4
                clear S3 ild nw t4 h11
                go_wp2_with fail
                refine (s_pages S4 R4 zX4 (P : Int) ⟨pP0, pP1⟩).mono ?_; rintro e W5 ⟨v5, rfl, il5, st5, R5, S5, t5⟩
                have ild5 := ild4.maps S4.v t5
                have nw5 := nw4.maps S4.v t5
                obtain ⟨a5, k5, rfl, _, _, _⟩ := il5.nr2
                have hy0 : (ws.length : Int) ≤ ((pgA a4 (P : Int)).length : Int) := by rw [HL.out, List.length_append]; omega
                have hy7 : ((pgA a4 (P : Int)).length : Int) ≤ 6 := by omega
                clear S4 R4 ild4 nw4 t5 il5
                go_wp2_with fail
                refine (s_pages S5 R5 zX4 (P : Int) ⟨pP0, pP1⟩).mono ?_; rintro e W6 ⟨v6, rfl, il6, st6, R6, S6, t6⟩
                have ild6 := ild5.maps S5.v t6
                have nw6 := nw5.maps S5.v t6
                obtain ⟨a6, k6, rfl, n6, h60, hk6⟩ := il6.nr2
                have n7 : NR W6 a6 ws := by
                  have := n6.take ws.length
                  rw [HL.out, List.take_left] at this
                  exact this
                have hk7 : (ws.length : Int) ≤ (k6 : Int) := by omega
                clear S5 R5 ild5 nw5 t6 il6 n6
                cases a6 with
                | none =>
                  as_aux_lemma =>
                    obtain ⟨e1, rfl⟩ := h60 rfl
                    have hws0 : ws = [] := List.length_eq_zero_iff.1 (by rw [e1] at hy0; simp at hy0; omega)
                    subst hws0
                    go_wp2_with fail
                    all_goals
                      refine (sameI_yes _ _ _ cw [] W6 (by decide) (nr0 rfl) nw6).mono ?_; rintro e W7 ⟨rfl, q7, rfl⟩
                      go_wp2_with fail
                      go_meet
                      case rel => exact ⟨_, _, _, R6, S6.drewN q7, HI4.out, ild6.below ⟨rfl, rfl, rfl, Nat.le_refl _, fun _ _ => rfl⟩, by omega⟩
                | some x6 =>
                  as_aux_lemma =>
                    go_wp2_with fail
                    refine (sameI_yes _ _ k6 cw ws W6 (by omega) n7 nw6).mono ?_; rintro e W7 ⟨rfl, q7, rfl⟩
                    go_wp2_with fail
                    go_meet
                    case rel => exact ⟨_, _, _, R6, S6.drewN q7, HI4.out, ild6.below ⟨rfl, rfl, rfl, Nat.le_refl _, fun _ _ => rfl⟩, by omega⟩
        case rest =>
          as_aux_lemma =>
            clear c0 ild il2 R3 S3 I1 Hmany hmb nw hw0 hcw zX zM
            obtain ⟨st5, a5, wl5, R5, S5, I5, il5, hl5⟩ := hcut
            have zX : ∀ p, p < 2 → (a5.X p).size ≤ 1000 := fun p hp => by have := I5.x p hp; omega
            have hwl1 : wl5.length ≤ 1000 := by omega
            have hwl2 : (wl5.length : Int) ≤ 200 := by omega
            have hwl3 : wl5.length ≤ 200 := by omega
            go_wp2_with fail
            refine (s_pool S5 R5).mono ?_; rintro e W6 ⟨zp, rfl, hzp, st6, R6, S6, t6⟩
            have il6 := il5.maps S5.v t6
            clear S5 R5 il5 t6
            have S7 := S6.below ((Below.refl _ _).alloc (Nat.le_refl _) (Obj.cells zp.cells 45))
            have il7 := il6.below ((Below.refl _ _).alloc (Nat.le_refl _) (Obj.cells zp.cells 45))
            have bP := blk_alloc_at W6 (Obj.cells zp.cells 45) _ rfl
            go_upto_region 26 with fail
            generalize W6.alloc (Obj.cells zp.cells 45) = W7 at *
            generalize hBP : W6.heap.size = BP at *
            have zBP : w.heap.size ≤ BP := by rw [← hBP]; exact S6.b.size
            have ltBP := S6.v.lts
            rw [hBP] at ltBP
            clear S6 il6 hBP
            have cm8 := CM.made W7
            have S8 := S7.below ((Below.refl _ _).alloc (Nat.le_refl _) (Obj.map #[] 0))
            have il8 := il7.below ((Below.refl _ _).alloc (Nat.le_refl _) (Obj.map #[] 0))
            have bP8 := (blk_alloc_past W7 (Obj.map #[] 0) _ (blk_lt bP)).trans bP
            have zBM := S7.b.size
            have ltBM := S7.v.lts
            have tBM := blk_lt S7.t
            have nPM := Nat.ne_of_lt (blk_lt bP)
            have hmm := @run_makeMap Tryd.prog
            go_wp2_with fail
            clear hmm
            generalize W7.alloc (Obj.map #[] 0) = W8 at *
            generalize W7.heap.size = BM at *
            clear S7 il7 bP
            have hcp : ∀ k g, cntP a5 k g ≤ 12 := by
              intro k g
              have q0 : (pgA a5 ((0 : Nat) : Int)).count (g : Int) ≤ 6 := Nat.le_trans (List.count_le_length ..) (by rw [pgA_len a5 0 (by decide)]; exact I5.x 0 (by decide))
              have q1 : (pgA a5 ((1 : Nat) : Int)).count (g : Int) ≤ 6 := Nat.le_trans (List.count_le_length ..) (by rw [pgA_len a5 1 (by decide)]; exact I5.x 1 (by decide))
              show (if 0 < k then (pgA a5 ((0 : Nat) : Int)).count (g : Int) else 0) + (if 1 < k then (pgA a5 ((1 : Nat) : Int)).count (g : Int) else 0) ≤ 12
              split <;> split <;> omega
            go_loopw [18] (fun i wr => ∃ (k : Nat) (st : VSt) (n : Nat), k ≤ 2 ∧ i = .int .i64 (k : Int) ∧ SR st a5 ∧ Std w t L d q st wr ∧ blk wr BP = some (.cells zp.cells 45 (0, 0)) ∧ CM wr BM (cntP a5 k) n ∧ n ≤ 6 * k ∧ IL w.heap.size wr u7 wl5) (fun i _ => 2 - (intOf i).toNat)
            case atStart => exact ⟨0, _, 0, by omega, rfl, R6, S8, bP8, cm8.congr fun x _ => rfl, by omega, il8⟩
            case round =>
              as_aux_lemma =>
                clear R6 S8 bP8 cm8 il8
                obtain ⟨k, st9, m9, hk, rfl, R9, S9, bP9, cm9, hm9, il9⟩ := hrel
                have k0 : (0 : Int) ≤ (k : Int) := by omega
                by_cases hk2 : k < 2
                · have k1 : (k : Int) < 2 := by omega
                  have h1 := s_mem S9 R9 k hk2
                  have hms := I5.m k hk2
                  have hpl := pgA_len a5 k hk2
                  have hx6 := I5.x k hk2
                  have hrng := pgA_rng a5 k hk2
                  go_wp2_with fail
                  refine h1.mono ?_; rintro e W10 ⟨zm, rfl, hzm, st10, R10, S10, t10⟩
                  have bP10 := S9.other t10 bP9
                  have cm10 := cm9.maps t10 ⟨ltBM.2.2.2.1, ltBM.2.2.2.2⟩
                  have il10 := il9.maps S9.v t10
                  rw [hms, ← hpl] at hzm
                  have hzs : (zm.s.size : Int) = 16 * ((pgA a5 (k : Int)).length : Int) := by rw [hzm, noughts_size]; omega
                  have hl6 : ((pgA a5 (k : Int)).length : Int) ≤ 6 := by omega
                  have HZ := Lib.hid hzm
                  have h2 := s_pages S10 R10 zX (k : Int) ⟨k0, k1⟩
                  clear S9 R9 h1 bP9 cm9 il9 t10 hms hpl hx6 hzm
                  go_upto_region 31 with fail
                  generalize zm.s = ms at *
                  go_wp2_with fail
                  refine h2.mono ?_; rintro e W11 ⟨v11, rfl, il11p, st11, R11, S11, t11⟩
                  obtain ⟨x11, c11, rfl, _, _, _⟩ := il11p.nr2
                  have bP11 := S10.other t11 bP10
                  have cm11 := cm10.maps t11 ⟨ltBM.2.2.2.1, ltBM.2.2.2.2⟩
                  have il11 := il10.maps S10.v t11
                  clear S10 R10 h2 bP10 cm10 il10 t11 il11p
                  go_wp2_with fail
                  go_loopw [20] (fun i wr => ∃ j3 : Nat, j3 ≤ ms.size ∧ i = .int .i64 (j3 : Int) ∧ wr = W11) (fun i _ => ms.size - (intOf i).toNat)
                  case atStart => exact ⟨0, by omega, rfl, rfl⟩
                  case round =>
                    as_aux_lemma =>
                      obtain ⟨j3, hj3, rfl, rfl⟩ := hrel
                      have j30 : (0 : Int) ≤ (j3 : Int) := by omega
                      by_cases hj4 : j3 < ms.size
                      · have j31 : (j3 : Int) < (ms.size : Int) := by omega
                        have hb : ∀ (h : j3 < ms.size), ms[j3]'h = 0 := by
                          rw [HZ.out]
                          exact fun h => noughts_at _ _ h
                        go_wp2_with fail
                        exact ⟨⟨j3 + 1, by omega, by go_num, by first | trivial | rfl⟩, by simp [intOf]; omega⟩
                      · obtain rfl : j3 = ms.size := by omega
                        have h2 := s_pages S11 R11 zX (k : Int) ⟨k0, k1⟩
                        go_wp2_with fail
                        refine h2.mono ?_; rintro e W12 ⟨v12, rfl, il12p, st12, R12, S12, t12⟩
                        obtain ⟨x12, c12, rfl, n12, _, _⟩ := il12p.nr2
                        have bP12 := S11.other t12 bP11
                        have cm12 := cm11.maps t12 ⟨ltBM.2.2.2.1, ltBM.2.2.2.2⟩
                        have il12 := il11.maps S11.v t12
                        clear S11 R11 h2 bP11 cm11 il11 t12 il12p HZ hzs
                        generalize hws : pgA a5 (k : Int) = ws at *
                        have HWS := Lib.hid hws
                        clear hws
                        go_wp2_with fail
                        go_loopw [181] (fun i wr => ∃ (j4 n4 : Nat), j4 ≤ ws.length ∧ i = .int .i64 (j4 : Int) ∧ Std w t L d q st12 wr ∧ blk wr BP = some (.cells zp.cells 45 (0, 0)) ∧ CM wr BM (fun g => cntP a5 k g + (ws.take j4).count (g : Int)) n4 ∧ n4 ≤ 6 * k + j4 ∧ IL w.heap.size wr u7 wl5 ∧ NR wr x12 ws) (fun i _ => ws.length - (intOf i).toNat)
                        case atStart => exact ⟨0, _, by omega, rfl, S12, bP12, cm12.congr fun g _ => by simp, by omega, il12, n12⟩
                        case round =>
                          as_aux_lemma =>
                            clear S12 bP12 cm12 il12 n12
                            obtain ⟨j4, n4, hj4, rfl, S13, bP13, cm13, hn4, il13, n13⟩ := hrel
                            have j40 : (0 : Int) ≤ (j4 : Int) := by omega
                            by_cases hj5 : j4 < ws.length
                            · have j41 : (j4 : Int) < (ws.length : Int) := by omega
                              obtain ⟨xa, rfl, hxa⟩ := n13 j4 hj5
                              obtain ⟨g0, g1⟩ := hrng ws[j4] (List.getElem_mem hj5)
                              have htk := List.take_succ_eq_append_getElem hj5
                              have HTK := Lib.hid htk
                              clear htk
                              generalize ws[j4] = g at *
                              obtain ⟨u, rfl⟩ := Int.eq_ofNat_of_zero_le g0
                              have hu : u < 64 := by omega
                              have hlk := cm13.look u hu
                              obtain ⟨cv, hcv⟩ : ∃ cv, cv = cntP a5 k u + (ws.take j4).count (u : Int) := ⟨_, rfl⟩
                              simp only [← hcv] at hlk
                              have hcv1 : cv < 90000 := by
                                have q1 := hcp k u
                                have q2 : (ws.take j4).count (u : Int) ≤ 6 := Nat.le_trans (List.count_le_length ..) (by rw [List.length_take]; omega)
                                omega
                              have hcv2 : (0 : Int) ≤ (cv : Int) := by omega
                              have hcv3 : (cv : Int) < 90000 := by omega
                              obtain ⟨W14, hput, cm14, t14⟩ := cm13.put (by omega) u hu (cv + 1) (by omega)
                              rw [show ((cv + 1 : Nat) : Int) = (cv : Int) + 1 by omega] at hput
                              have HCV := Lib.hid hcv
                              clear hcv
                              have S14 := Lib.hid (S13.offD t14 zBM ⟨by omega, by omega, by omega, by omega, by omega⟩ (by omega))
                              have bP14 := Lib.hid (blk_of_turn t14 bP13 (show ¬ (BP = BM) by omega))
                              have il14 := Lib.hid (il13.offM cm13 t14)
                              have n14 := Lib.hid (n13.offM cm13 t14)
                              have CM14 := Lib.hid cm14
                              clear S13 bP13 il13 n13 cm14 t14 cm13
                              go_wp2_with fail
                              refine ⟨⟨j4 + 1, n4 + 1, by omega, by go_num, S14.out, bP14.out, CM14.out.congr fun g hg => ?_, by omega, il14.out, n14.out⟩, by simp [intOf]; omega⟩
                              rw [HTK.out, List.count_append, ← Nat.add_assoc]
                              by_cases e : g = u
                              · subst e
                                rw [if_pos rfl, HCV.out]
                                simp
                              · rw [if_neg e]
                                have : List.count (g : Int) [(u : Int)] = 0 := by rw [List.count_eq_zero]; simp; omega
                                omega
                            · obtain rfl : j4 = ws.length := by omega
                              have hcc : ∀ g, cntP a5 (k + 1) g = cntP a5 k g + (ws.take ws.length).count (g : Int) := fun g => by rw [cntP_succ a5 k hk2 g, List.take_length, HWS.out]
                              have CM14 := Lib.hid cm13
                              have HCC := Lib.hid hcc
                              clear hcc cm13 n13 hrng
                              go_wp2_with fail
                              exact ⟨⟨k + 1, st12, n4, by omega, by go_num, R12, S13, bP13, CM14.out.congr fun g _ => HCC.out g, by omega, il13⟩, by simp [intOf]; omega⟩
                · obtain rfl : k = 2 := by omega
                  obtain ⟨ay, cy, rfl, ny9, _, _⟩ := il9.nr2
                  have hr5 := I5.rng
                  go_wp2_with fail
                  go_loopw [192] (fun i wr => ∃ (j4 n4 : Nat), j4 ≤ wl5.length ∧ i = .int .i64 (j4 : Int) ∧ Std w t L d q st9 wr ∧ blk wr BP = some (.cells zp.cells 45 (0, 0)) ∧ CM wr BM (fun g => cntP a5 2 g + (wl5.take j4).count (g : Int)) n4 ∧ n4 ≤ 12 + j4 ∧ NR wr ay wl5 ∧ IL w.heap.size wr (.slice ay wl5.length cy) wl5) (fun i _ => wl5.length - (intOf i).toNat)
                  case atStart => exact ⟨0, _, by omega, rfl, S9, bP9, cm9.congr fun g _ => by simp, by omega, ny9, il9⟩
                  case round =>
                    as_aux_lemma =>
                      clear S9 bP9 cm9 il9 ny9
                      obtain ⟨j4, n4, hj4, rfl, S13, bP13, cm13, hn4, n13, il13⟩ := hrel
                      have j40 : (0 : Int) ≤ (j4 : Int) := by omega
                      by_cases hj5 : j4 < wl5.length
                      · have j41 : (j4 : Int) < (wl5.length : Int) := by omega
                        obtain ⟨xa, rfl, hxa⟩ := n13 j4 hj5
                        obtain ⟨g0, g1⟩ := hr5 wl5[j4] (List.getElem_mem hj5)
                        have htk := List.take_succ_eq_append_getElem hj5
                        have HTK := Lib.hid htk
                        clear htk
                        generalize wl5[j4] = g at *
                        obtain ⟨u, rfl⟩ := Int.eq_ofNat_of_zero_le g0
                        have hu : u < 64 := by omega
                        have hlk := cm13.look u hu
                        obtain ⟨cv, hcv⟩ : ∃ cv, cv = cntP a5 2 u + (wl5.take j4).count (u : Int) := ⟨_, rfl⟩
                        simp only [← hcv] at hlk
                        have hcv1 : cv < 90000 := by
                          have q1 := hcp 2 u
                          have q2 : (wl5.take j4).count (u : Int) ≤ 200 := Nat.le_trans (List.count_le_length ..) (by rw [List.length_take]; omega)
                          omega
                        have hcv2 : (0 : Int) ≤ (cv : Int) := by omega
                        have hcv3 : (cv : Int) < 90000 := by omega
                        obtain ⟨W14, hput, cm14, t14⟩ := cm13.put (by omega) u hu (cv + 1) (by omega)
                        rw [show ((cv + 1 : Nat) : Int) = (cv : Int) + 1 by omega] at hput
                        have HCV := Lib.hid hcv
                        clear hcv
                        have S14 := Lib.hid (S13.offD t14 zBM ⟨by omega, by omega, by omega, by omega, by omega⟩ (by omega))
                        have bP14 := Lib.hid (blk_of_turn t14 bP13 (show ¬ (BP = BM) by omega))
                        have n14 := Lib.hid (n13.offM cm13 t14)
                        have il14 := Lib.hid (il13.offM cm13 t14)
                        have CM14 := Lib.hid cm14
                        clear S13 bP13 n13 cm14 t14 cm13 il13
                        go_wp2_with fail
                        refine ⟨⟨j4 + 1, n4 + 1, by omega, by go_num, S14.out, bP14.out, CM14.out.congr fun g hg => ?_, by omega, n14.out, il14.out⟩, by simp [intOf]; omega⟩
                        rw [HTK.out, List.count_append, ← Nat.add_assoc]
                        by_cases e : g = u
                        · subst e
                          rw [if_pos rfl, HCV.out]
                          simp
                        · rw [if_neg e]
                          have : List.count (g : Int) [(u : Int)] = 0 := by rw [List.count_eq_zero]; simp; omega
                          omega
                      · obtain rfl : j4 = wl5.length := by omega
                        have hown := I5.own
                        have IL13 := Lib.hid il13
                        have I5' := Lib.hid I5
                        clear hr5 n13 il13 I5
                        go_wp2_with fail
                        go_loopw [25] (fun i wr => ∃ (j6 n6 : Nat), j6 ≤ 64 ∧ i = .int .i64 (j6 : Int) ∧ Std w t L d q st9 wr ∧ blk wr BP = some (.cells zp.cells 45 (0, 0)) ∧ CM wr BM (fun g => cntP a5 2 g + wl5.count (g : Int) + if g < j6 then b01 (usedI a5.f g) else 0) n6 ∧ n6 ≤ 300 + j6 ∧ IL w.heap.size wr (.slice ay wl5.length cy) wl5) (fun i _ => 64 - (intOf i).toNat)
                        case atStart => exact ⟨0, _, by omega, rfl, S13, bP13, cm13.congr fun g _ => by rw [List.take_length]; simp, by omega, IL13.out⟩
                        case round =>
                          as_aux_lemma =>
                            clear S13 bP13 cm13 IL13
                            obtain ⟨j6, n6, hj6, rfl, S14, bP14, cm14, hn6, il14⟩ := hrel
                            have j60 : (0 : Int) ≤ (j6 : Int) := by omega
                            by_cases hj7 : j6 < 64
                            · have j61 : (j6 : Int) < 64 := by omega
                              have d0 := cell_of_row _ _ 0 _ _ _ bP14
                              rw [cells_0, hzp] at d0
                              have ho := hown j6 hj7
                              have hfree : bits .and .i64 (a0 / 2 ^ j6) 1 = ((b01 (usedI a0 j6) : Nat) : Int) := bit_val a0 j6
                              rw [← ho] at hfree
                              have hf0 := bit_val a5.f j6
                              have hcpk := hcp 2 j6
                              have hwc : wl5.count (j6 : Int) ≤ 200 := Nat.le_trans (List.count_le_length ..) hwl3
                              have hlk := cm14.look j6 hj7
                              simp only [Nat.lt_irrefl, if_false, Nat.add_zero] at hlk
                              have hoo : ownC a5 wl5 j6 = b01 (usedI a5.f j6) + (cntP a5 2 j6 + wl5.count (j6 : Int)) := by unfold ownC cntP; simp; omega
                              obtain ⟨cv, hcv⟩ : ∃ cv, cv = cntP a5 2 j6 + wl5.count (j6 : Int) := ⟨_, rfl⟩
                              rw [← hcv] at hlk hoo
                              have hcv1 : cv < 90000 := by omega
                              have hcv2 : (0 : Int) ≤ (cv : Int) := by omega
                              have hcv3 : (cv : Int) < 90000 := by omega
                              have HCV := Lib.hid hcv
                              have HH := Lib.hid hown
                              clear hcv hown ho hcpk hwc
                              cases hu : usedI a5.f j6 with
                              | true =>
                                as_aux_lemma =>
                                  rw [hu] at hf0 hoo
                                  rw [hoo] at hfree
                                  rw [show ((b01 true : Nat) : Int) = 1 from rfl] at hf0
                                  rw [show ((b01 true + cv : Nat) : Int) = (cv : Int) + 1 by show ((1 + cv : Nat) : Int) = _; omega] at hfree
                                  obtain ⟨W15, hput, cm15, t15⟩ := cm14.put (by omega) j6 hj7 (cv + 1) (by omega)
                                  rw [show ((cv + 1 : Nat) : Int) = (cv : Int) + 1 by omega] at hput
                                  have hlk2 : ∀ q, (Instr.lookup 49 (.map (some BM)) (.int .i64 (j6 : Int)) false).run Tryd.prog (W15.drewN q) = .ok (.int .i64 ((cv : Int) + 1)) (W15.drewN q) := by
                                    intro q
                                    have := (cm15.keep (W' := W15.drewN q) rfl).look j6 hj7
                                    simp only [if_true] at this
                                    rw [show ((cv + 1 : Nat) : Int) = (cv : Int) + 1 by omega] at this
                                    exact this
                                  have S15 := Lib.hid (S14.offD t15 zBM ⟨by omega, by omega, by omega, by omega, by omega⟩ (by omega))
                                  have bP15 := Lib.hid (blk_of_turn t15 bP14 (show ¬ (BP = BM) by omega))
                                  have il15 := Lib.hid (il14.offM cm14 t15)
                                  have CM15 := Lib.hid cm15
                                  clear S14 bP14 il14 cm15 t15 cm14 hoo
                                  go_wp2_with fail
                                  go_quiet (fail)
                                  go_wp2_with fail
                                  refine ⟨⟨j6 + 1, n6 + 1, by omega, by go_num, S15.out.drewN nq, (blk_drewN _ _ _).trans bP15.out, (CM15.out.keep (W' := W15.drewN nq) rfl).congr fun g hg => ?_, by omega, il15.out.below ⟨rfl, rfl, rfl, Nat.le_refl _, fun _ _ => rfl⟩⟩, by simp [intOf]; omega⟩
                                  by_cases e : g = j6
                                  · subst e
                                    rw [if_pos rfl, if_pos (Nat.lt_succ_self _), hu, HCV.out]
                                    rfl
                                  · rw [if_neg e]
                                    by_cases e2 : g < j6
                                    · rw [if_pos e2, if_pos (by omega)]
                                    · rw [if_neg e2, if_neg (by omega)]
                              | false =>
                                as_aux_lemma =>
                                  rw [hu] at hf0 hoo
                                  rw [hoo] at hfree
                                  rw [show ((b01 false : Nat) : Int) = 0 from rfl] at hf0
                                  rw [show ((b01 false + cv : Nat) : Int) = (cv : Int) by show ((0 + cv : Nat) : Int) = _; omega] at hfree
                                  have hlk2 : ∀ q, (Instr.lookup 49 (.map (some BM)) (.int .i64 (j6 : Int)) false).run Tryd.prog (wr.drewN q) = .ok (.int .i64 (cv : Int)) (wr.drewN q) := by
                                    intro q
                                    have := (cm14.keep (W' := wr.drewN q) rfl).look j6 hj7
                                    simp only [Nat.lt_irrefl, if_false, Nat.add_zero] at this
                                    rw [← HCV.out] at this
                                    exact this
                                  have S15 := Lib.hid S14
                                  have bP15 := Lib.hid bP14
                                  have il15 := Lib.hid il14
                                  have CM15 := Lib.hid cm14
                                  clear S14 bP14 il14 cm14 hoo hlk
                                  go_wp2_with fail
                                  go_quiet (fail)
                                  go_wp2_with fail
                                  refine ⟨⟨j6 + 1, n6, by omega, by go_num, S15.out.drewN nq, (blk_drewN _ _ _).trans bP15.out, (CM15.out.keep (W' := wr.drewN nq) rfl).congr fun g hg => ?_, by omega, il15.out.below ⟨rfl, rfl, rfl, Nat.le_refl _, fun _ _ => rfl⟩⟩, by simp [intOf]; omega⟩
                                  by_cases e : g = j6
                                  · subst e
                                    rw [if_pos (Nat.lt_succ_self _), if_neg (Nat.lt_irrefl _), hu]
                                    rfl
                                  · by_cases e2 : g < j6
                                    · rw [if_pos e2, if_pos (by omega)]
                                    · rw [if_neg e2, if_neg (by omega)]
                            · obtain rfl : j6 = 64 := by omega
                              have CM15 := Lib.hid cm14
                              clear cm14
                              go_wp2_with fail
                              exact ⟨⟨j + 1, st9, a5, wl5, by omega, by go_num, R9, S14, I5'.out, il14, hl5⟩, by simp [intOf]; omega⟩
      · as_aux_lemma =>
          have hend : ¬ (j : Int) < (len1 : Int) ∨ ((j : Int) < (len1 : Int) ∧ ¬ (j : Int) < 30) := by omega
          have hs := spaceRuns_any wr (hM.below (Nat.le_refl _) S1.b)
          have HB := S1.b
          clear S1 R1 I1 il1
          rcases hend with e1 | ⟨e1, e2⟩
          all_goals
            go_wp2_with fail
            refine hs.mono ?_; rintro e W9 ⟨rfl, b9⟩
            go_wp2_with fail
            go_ret
            exact ⟨rfl, HB.trans (b9.mono HB.size)⟩
end Go.Proofs.YtdlcbclfniahoaaDoor.St
