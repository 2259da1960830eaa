/- The walk of cloisterlaw11.DirTable. No condition but those written in each statement. -/
import Derived.Test.YtcefigpdodlonaaDirT
import Derived.Test.YtcefigpdodlonaaMix
import Derived.Test.YtcefigpdodlonaaWithin
namespace Go.Proofs.Ytcefigpdodlonaa.St
open Go.RowKit
set_option linter.unusedVariables false

theorem TR.maps {W W' : World} {L : Lay} {st : VSt} {a : Option Addr} {ps : List ByteArray} (h : TR W a ps) (hV : ViewAt W L st) (hm : Maps L W W') : TR W' a ps := fun i hi => by
  obtain ⟨x, e, c⟩ := h i hi
  have hlt := World.block_lt_of_cell? _ _ c
  obtain ⟨_, _, hr, _⟩ := hV.cr
  obtain ⟨_, _, hm', _⟩ := hV.cm
  have hne : ¬((x.add i).block = L.r ∨ (x.add i).block = L.m) := by
    rintro (q | q)
    · unfold World.cell? at c; rw [q, hr] at c; simp at c
    · unfold World.cell? at c; rw [q, hm'] at c; simp at c
  refine ⟨x, e, ?_⟩
  rw [World.cell?_of_block (hm.block (x.add i).block (by simpa using hlt) hne)]
  exact c

section
variable {w W : World} {t : Nat} {L : Lay} {d q : Nat} {st : VSt} {es : List Ent} {f : ByteArray → Option Int} {n : Nat}

/-- The directory is the table that the map is. -/
structure DT (w W : World) (t : Nat) (L : Lay) (d q B : Nat) (f : ByteArray → Option Int) (n : Nat) : Prop where
  ex : ∃ st es, DirAt st 1 es ∧ TB es f n ∧ Std w t L d q st W
  sm : SM W B f n
  lo : w.heap.size ≤ B
  ne : L.v ≠ B ∧ L.s ≠ B ∧ L.l ≠ B ∧ L.r ≠ B ∧ L.m ≠ B ∧ t ≠ B
theorem DT.cell {B : Nat} (D : DT w W t L d q B f n) : W.cell? ⟨t, 1, none⟩ = some (.pointer (some ⟨L.v, 0, none⟩)) := by
  obtain ⟨st, es, _, _, S⟩ := D.ex; exact S.cell
theorem DT.b {B : Nat} (D : DT w W t L d q B f n) : Below w.heap.size w W := by
  obtain ⟨st, es, _, _, S⟩ := D.ex; exact S.b
theorem DT.below {B : Nat} {W' : World} (D : DT w W t L d q B f n) (h : Below W.heap.size W W') : DT w W' t L d q B f n := by
  obtain ⟨st, es, a, b, S⟩ := D.ex
  exact ⟨⟨st, es, a, b, S.below h⟩, D.sm.below h, D.lo, D.ne⟩
theorem DT.le {B : Nat} (D : DT w W t L d q B f n) : n ≤ 8 := by
  obtain ⟨st, es, _, T, _⟩ := D.ex
  have := namesE_len es
  rw [T.many] at this
  have := T.le
  omega
theorem sm_maps {B : Nat} {W' : World} (h : SM W B f n) (ne : L.r ≠ B ∧ L.m ≠ B) (m : Maps L W W') : SM W' B f n :=
  h.keep (m.block B h.lt (by rintro (q | q); exact ne.1 q.symm; exact ne.2 q.symm))

theorem t_rem {B : Nat} (hM : Mx w) (D : DT w W t L d q B f n) (s : ByteArray) (hs : isLet s) : Calls Try.prog 10 #[.pointer (some ⟨L.v, 0, none⟩), .int .i64 1, .string s] W fun e W' => e = .returned (.bool (f s).isSome) ∧
    (W'.cell? ⟨t, 1, none⟩ = some (.pointer (some ⟨L.v, 0, none⟩)) ∧ ∃ W'' , (∀ ty, (Builtin.delete_ #[45, 9] ty #[.map (some B), .string s]).run Try.prog W' = .ok (.tuple #[]) W'') ∧ DT w W'' t L d q B (delS f s) (if (f s).isSome then n - 1 else n)) := by
  obtain ⟨⟨st, es, H, T, S⟩, sm, lo, ne⟩ := D
  obtain ⟨e1, T2⟩ := T.rem hs
  have h := d_rem hM S H (by decide) (by decide) s (by rw [hs.size]; decide)
  rw [e1] at h
  refine h.mono fun e W' ⟨a, st', ⟨b, _⟩, S', m⟩ => ?_
  have sm' := sm_maps sm ⟨ne.2.2.2.1, ne.2.2.2.2.1⟩ m
  obtain ⟨W2, hrun, sm2, ht⟩ := sm'.del s (by rw [hs.size]; decide) 0
  exact ⟨a, S'.cell, W2, fun ty => hrun, ⟨st', _, b, T2, S'.off (turn_map ht) lo ⟨ne.1, ne.2.1, ne.2.2.1, ne.2.2.2.1, ne.2.2.2.2.1⟩ ne.2.2.2.2.2⟩, sm2, lo, ne⟩
theorem t_add {B : Nat} (hM : Mx w) (D : DT w W t L d q B f n) (s : ByteArray) (hs : isLet s) (m : Int) (h1 : 1 ≤ m) (h2 : m < 16) (hf : f s = none) (hn : n < 8) : Calls Try.prog 9 #[.pointer (some ⟨L.v, 0, none⟩), .int .i64 1, .string s, .int .i64 m] W fun e W' => e = .returned (.bool true) ∧
    (W'.cell? ⟨t, 1, none⟩ = some (.pointer (some ⟨L.v, 0, none⟩)) ∧ ∃ W'', (Instr.mapUpdate 45 (.map (some B)) (.string s) (.int .i64 m)).run Try.prog W' = .ok () W'' ∧ DT w W'' t L d q B (updS f s m) (n + 1)) := by
  obtain ⟨⟨st, es, H, T, S⟩, sm, lo, ne⟩ := D
  obtain ⟨e1, T2, _⟩ := T.added hs h1 h2
  have h := d_add hM S H (by decide) (by decide) s m (by rw [hs.size]; decide)
  rw [e1, hf, decide_eq_true hn] at h
  refine h.mono fun e W' ⟨a, st', ⟨b, _⟩, S', mm⟩ => ?_
  have sm' := sm_maps sm ⟨ne.2.2.2.1, ne.2.2.2.2.1⟩ mm
  obtain ⟨W2, hrun, sm2, ht⟩ := sm'.put (by omega) s (by rw [hs.size]; decide) m (by apply WalkArith.wf_i64 <;> omega)
  rw [hf] at sm2
  exact ⟨a, S'.cell, W2, hrun, ⟨st', _, b, T2 hf hn, S'.off (turn_map ht) lo ⟨ne.1, ne.2.1, ne.2.2.1, ne.2.2.2.1, ne.2.2.2.2.1⟩ ne.2.2.2.2.2⟩, sm2, lo, ne⟩
theorem t_add_no {B : Nat} (hM : Mx w) (D : DT w W t L d q B f n) (s : ByteArray) (hs : isLet s) (m : Int) (h1 : 1 ≤ m) (h2 : m < 16) (hc : (f s).isSome = true ∨ 8 ≤ n) : Calls Try.prog 9 #[.pointer (some ⟨L.v, 0, none⟩), .int .i64 1, .string s, .int .i64 m] W fun e W' => e = .returned (.bool false) ∧
    DT w W' t L d q B f n := by
  obtain ⟨⟨st, es, H, T, S⟩, sm, lo, ne⟩ := D
  obtain ⟨e1, _, e3⟩ := T.added hs h1 h2
  have h := d_add hM S H (by decide) (by decide) s m (by rw [hs.size]; decide)
  have e0 : addB es s m = false := by
    rw [e1]
    rcases hc with hc | hc
    · rw [hc]; rfl
    · rw [decide_eq_false (by omega : ¬ n < 8), Bool.and_false]
  rw [e0, e3 e0] at h
  exact h.mono fun e W' ⟨a, st', ⟨b, _⟩, S', mm⟩ => ⟨a, ⟨st', _, b, T, S'⟩, sm_maps sm ⟨ne.2.2.2.1, ne.2.2.2.2.1⟩ mm, lo, ne⟩
theorem t_names {B : Nat} (hM : Mx w) (D : DT w W t L d q B f n) : Calls Try.prog 13 #[.pointer (some ⟨L.v, 0, none⟩), .int .i64 1] W fun e W' => ∃ a c ps, e = .returned (.slice a n c) ∧ ps.length = n ∧ TR W' a ps ∧ (∀ i (hi : i < ps.length), isLet ps[i] ∧ ∃ v, f ps[i] = some v) ∧ DT w W' t L d q B f n := by
  obtain ⟨⟨st, es, H, T, S⟩, sm, lo, ne⟩ := D
  refine (d_names hM S H (by decide) (by decide)).mono fun e W' ⟨v, a, o, st', b, S', mm⟩ => ?_
  obtain ⟨x, c, e', tr, _⟩ := o.tr
  rw [T.many] at e'
  refine ⟨x, c, namesE es, by rw [a, e'], T.many, tr, fun i hi => ?_, ⟨st', es, dirAt_same H (b _ _), T, S'⟩, sm_maps sm ⟨ne.2.2.2.1, ne.2.2.2.2.1⟩ mm, lo, ne⟩
  obtain ⟨p, v, hv, _⟩ := T.named i hi
  exact ⟨p, v, hv⟩
theorem t_bare {B : Nat} (hM : Mx w) (D : DT w W t L d q B f n) : Calls Try.prog 17 #[.pointer (some ⟨L.v, 0, none⟩), .int .i64 1] W fun e W' => e = .returned (.bool ((n : Int) == 0)) ∧ DT w W' t L d q B f n ∧ ∀ a ps, TR W a ps → TR W' a ps := by
  obtain ⟨⟨st, es, H, T, S⟩, sm, lo, ne⟩ := D
  have h := d_bare hM S H (by decide) (by decide)
  rw [T.bare] at h
  exact h.mono fun e W' ⟨a, st', b, S', mm⟩ => ⟨a, ⟨⟨st', es, dirAt_same H (b _ _), T, S'⟩, sm_maps sm ⟨ne.2.2.2.1, ne.2.2.2.2.1⟩ mm, lo, ne⟩, fun x ps tr => tr.maps S.v mm⟩
theorem t_find {B : Nat} (hM : Mx w) (D : DT w W t L d q B f n) (s : ByteArray) (hs : isLet s) (v : Int) (hf : f s = some v) : Calls Try.prog 11 #[.pointer (some ⟨L.v, 0, none⟩), .int .i64 1, .string s] W fun e W' => e = .returned (.tuple #[.int .i64 v, .bool true]) ∧ DT w W' t L d q B f n ∧ ∀ a ps, TR W a ps → TR W' a ps := by
  obtain ⟨⟨st, es, H, T, S⟩, sm, lo, ne⟩ := D
  have h := d_find hM S H (by decide) (by decide) s (by rw [hs.size]; decide)
  have e1 : fndN es s = v ∧ fndB es s = true := by
    rcases T.place hs with ⟨hf', _⟩ | ⟨j, hj, v', hf', hp, hjt, hje⟩
    · rw [hf] at hf'; cases hf'
    · rw [hf] at hf'
      unfold fndB fndN
      rw [hp, decide_eq_false (by omega : ¬ (j : Int) < 0), if_neg (by omega)]
      simp [List.getD, List.getElem?_eq_getElem hj, hje]
      simpa using hf'.symm
  rw [e1.1, e1.2] at h
  exact h.mono fun e W' ⟨a, st', b, S', mm⟩ => ⟨a, ⟨⟨st', es, dirAt_same H (b _ _), T, S'⟩, sm_maps sm ⟨ne.2.2.2.1, ne.2.2.2.2.1⟩ mm, lo, ne⟩, fun x ps tr => tr.maps S.v mm⟩
theorem t_size {B : Nat} (D : DT w W t L d q B f n) : Calls Try.prog 15 #[.pointer (some ⟨L.v, 0, none⟩), .int .i64 1] W fun e W' => ∃ x : Int, x ≤ 128 ∧ e = .returned (.int .i64 x) ∧ Below w.heap.size w W' := by
  obtain ⟨⟨st, es, H, T, S⟩, sm, lo, ne⟩ := D
  have h := s_size S 1
  have v := dirAt_val H (by decide) (by decide)
  exact h.mono fun e W' ⟨a, s, _⟩ => ⟨_, by omega, a, s.b⟩
end
theorem let_of (g : Int) (h0 : 0 ≤ g) (h1 : g ≤ 11) : isLet ⟨#[UInt8.ofNat (97 + g).toNat]⟩ := ⟨g.toNat, by omega, by unfold letS; rw [show (97 + g).toNat = 97 + g.toNat by omega]⟩

theorem run_one_text (W : World) (x : Int) : (convert 46 9 (.slice (some ⟨W.heap.size, 0, none⟩) 1 1)).run Try.prog (W.alloc (.cells #[.int .u8 x] 5)) = .ok (.string ⟨#[UInt8.ofNat x.toNat]⟩) (W.alloc (.cells #[.int .u8 x] 5)) := by
  have h := run_text_of (W.alloc (.cells #[.int .u8 x] 5)) 46 9 5 W.heap.size 1 1 (fun _ => .int .u8 x) [x] Try.underlying46 Try.underlying5 Try.underlying9
    ⟨_, heap_alloc_new _ _, rfl, fun i hi => by
      match i, hi with
      | 0, _ => rfl⟩ rfl (fun i hi => by
      match i, hi with
      | 0, _ => rfl)
  exact h

attribute [local irreducible] Int.lt Int.le csN
set_option maxRecDepth 100000 in
set_option maxHeartbeats 4000000 in
theorem dirTable_walk (a0 : Option Addr) (len0 cap0 : Nat) (w : World) (w0 : IsMix [.int .i64, .int .i64, .int .i64, .str] w a0 len0 cap0) (hM : Mx w) :
    Calls Try.prog 5 #[.slice a0 len0 cap0] w fun e w' => e = .returned (.bool true) ∧ Below w.heap.size w w' := by
  have hmm := @run_makeMap Try.prog
  have hone := run_one_text
  go_enter Try.func5, Try.ntmps5
  go_wp2_with fail
  refine (s_newV _).mono ?_; rintro e W1 ⟨t, d, q, L, rfl, S1⟩
  have c1 := S1.cell
  go_wp2_with fail
  refine (s_mkdir S1).mono ?_; rintro e W2 ⟨rfl, st2, H2, S2⟩
  clear S1 c1
  go_wp2_with fail
  have lt := S2.v.lts
  have ltt := blk_lt S2.t
  have D0 : DT w (W2.alloc (Obj.map #[] 0)) t L d q W2.heap.size (fun _ => none) 0 :=
    ⟨⟨st2, [], H2, TB.nil, S2.below ((Below.refl _ _).alloc (Nat.le_refl _) _)⟩, SM.made W2, S2.b.size, by omega⟩
  generalize W2.alloc (Obj.map #[] 0) = W3 at *
  generalize W2.heap.size = B at *
  clear S2 H2 lt ltt
  go_loopw [7] (fun k wr => ∃ (j : Nat) (f : ByteArray → Option Int) (n : Nat), j ≤ 40 ∧ k = .int .i64 (j : Int) ∧ DT w wr t L d q B f n) (fun k _ => 40 - (intOf k).toNat)
  case atStart => exact ⟨0, _, 0, by omega, rfl, D0⟩
  case round =>
    clear D0
    obtain ⟨j, f, n, j1, rfl, D⟩ := hrel
    have c6 := D.cell
    by_cases hlt : j < len0 ∧ j < 40
    · rcases w0 with ⟨_, q2, _⟩ | ⟨x, rfl, x1, x2, hx⟩
      · omega
      obtain ⟨_, ⟨n0, rfl, _⟩, z0⟩ := mix_first hx 4 rfl j hlt.1 _ rfl
      obtain ⟨_, ⟨n1, rfl, _⟩, z1⟩ := mix_field hx 4 rfl j hlt.1 1 _ rfl (by omega)
      obtain ⟨_, ⟨n2, rfl, _⟩, z2⟩ := mix_field hx 4 rfl j hlt.1 2 _ rfl (by omega)
      have y1 := z1 _ D.b
      have l1 : (j : Int) < len0 := by omega
      have l2 : (j : Int) < 40 := by omega
      have Z0 := Lib.hid z0
      have Z2 := Lib.hid z2
      clear z0 z1 z2
      go_wp2_with fail
      have wb := Fp.within_bounds n1 0 11 (by omega)
      refine (Fp.within_any n1 0 11 (by omega) (by omega) (by omega) _).mono ?_; rintro e Wx ⟨rfl, rfl⟩
      generalize Fp.withinI n1 0 11 = g at *
      have g1 : 0 ≤ g := wb.1
      have g2 : g ≤ 11 := wb.2
      have hlet := let_of g g1 g2
      clear wb
      have D1 := D.below (Below.alloc (Below.refl wr.heap.size wr) (Nat.le_refl _) (Obj.cells #[Value.int IntKind.u8 (97 + g)] 5))
      have y2 := Z2.out _ D1.b
      go_wp2_with fail
      generalize wr.alloc (Obj.cells #[Value.int IntKind.u8 (97 + g)] 5) = W4 at *
      generalize (⟨#[UInt8.ofNat (97 + g).toNat]⟩ : ByteArray) = s at *
      clear D c6 y1 y2
      have wb := Fp.within_bounds n2 1 15 (by omega)
      refine (Fp.within_any n2 1 15 (by omega) (by omega) (by omega) _).mono ?_; rintro e Wx ⟨rfl, rfl⟩
      generalize Fp.withinI n2 1 15 = m at *
      have m1 : 1 ≤ m := wb.1
      have m2 : m < 16 := by have := wb.2; omega
      have y0 := Z0.out _ D1.b
      have c1 := D1.cell
      obtain ⟨v0, hlook, hv0⟩ := D1.sm.look s (by rw [hlet.size]; decide)
      have HV := Lib.hid hv0
      have hle := D1.le
      clear wb hv0
      have hn : (n0 = 2 ∧ f s = none) ∨ (n0 = 2 ∧ ∃ v, f s = some v) ∨ (n0 ≠ 2 ∧ f s = none ∧ n < 8) ∨ (n0 ≠ 2 ∧ f s = none ∧ 8 ≤ n) ∨ (n0 ≠ 2 ∧ ∃ v, f s = some v) := by
        cases f s with
        | none => simp; omega
        | some v => simp; omega
      rcases hn with ⟨hn, hf⟩ | ⟨hn, v, hf⟩ | ⟨hn, hf, h8⟩ | ⟨hn, hf, h8⟩ | ⟨hn, v, hf⟩
      case' inl =>
        subst hn
        have hr := t_rem hM D1 s hlet
        rw [hf] at hlook hr
        simp only [Option.isSome_none, Bool.false_eq_true, if_false] at hlook hr
        clear hf
        go_wp2_with fail
        refine hr.mono ?_; rintro e W5 ⟨rfl, c5, W6, hdel, D2⟩
        clear hr D1 c1 y0 hlook
        have c6 := D2.cell
        go_wp2_with fail
      case' inr.inl =>
        subst hn
        have hr := t_rem hM D1 s hlet
        rw [hf] at hlook hr
        simp only [Option.isSome_some, if_true] at hlook hr
        clear hf
        go_wp2_with fail
        refine hr.mono ?_; rintro e W5 ⟨rfl, c5, W6, hdel, D2⟩
        clear hr D1 c1 y0 hlook
        have c6 := D2.cell
        go_wp2_with fail
      case' inr.inr.inl =>
        have hn2 : (n0 == 2) = false := beq_eq_false_iff_ne.2 hn
        have hr := t_add hM D1 s hlet m m1 m2 hf h8
        have hlen := fun ty => D1.sm.len ty
        have h8' : (n : Int) < 8 := by omega
        rw [hf] at hlook
        simp only [Option.isSome_none] at hlook
        clear hf
        go_wp2_with fail
        refine hr.mono ?_; rintro e W5 ⟨rfl, c5, W6, hput, D2⟩
        clear hr D1 c1 y0 hlook hlen
        have c6 := D2.cell
        go_wp2_with fail
      case' inr.inr.inr.inl =>
        have hn2 : (n0 == 2) = false := beq_eq_false_iff_ne.2 hn
        have hr := t_add_no hM D1 s hlet m m1 m2 (Or.inr h8)
        have hlen := fun ty => D1.sm.len ty
        have h8' : decide ((n : Int) < 8) = false := by simp; omega
        rw [hf] at hlook
        simp only [Option.isSome_none] at hlook
        clear hf
        go_wp2_with fail
        refine hr.mono ?_; rintro e W6 ⟨rfl, D2⟩
        clear hr D1 c1 y0 hlook hlen
        have c6 := D2.cell
        go_wp2_with fail
      case' inr.inr.inr.inr =>
        have hn2 : (n0 == 2) = false := beq_eq_false_iff_ne.2 hn
        have hr := t_add_no hM D1 s hlet m m1 m2 (Or.inl (by rw [hf]; rfl))
        rw [hf] at hlook
        simp only [Option.isSome_some] at hlook
        clear hf
        go_wp2_with fail
        refine hr.mono ?_; rintro e W6 ⟨rfl, D2⟩
        clear hr D1 c1 y0 hlook
        have c6 := D2.cell
        go_wp2_with fail
      all_goals
        obtain ⟨f2, k2, D3⟩ : ∃ f2 k2, DT w W6 t L d q B f2 k2 := ⟨_, _, D2⟩
        clear D2 HV hle c6
        refine (t_names hM D3).mono ?_; rintro e W7 ⟨a, c, ps, rfl, hpl, tr, hps, D7⟩
        have c7 := D7.cell
        have hlen := fun ty => D7.sm.len ty
        have hle7 := D7.le
        clear D3
        go_wp2_with fail
        have hb := t_bare hM D7
        have hz : k2 = 0 ∨ (((k2 : Nat) : Int) == 0) = false := by
          by_cases q : k2 = 0
          · exact Or.inl q
          · exact Or.inr (beq_eq_false_iff_ne.2 (by omega))
        rcases hz with rfl | hz
        case' inl => rw [show (((0 : Nat) : Int) == 0) = true from rfl] at hb
        case' inr => rw [hz] at hb
        all_goals
          refine hb.mono ?_; rintro e W8 ⟨rfl, D8, tr8⟩
          have hlen8 := fun ty => D8.sm.len ty
          have trn := tr8 _ _ tr
          have Hps := Lib.hid hps
          have Hpl := Lib.hid hpl
          clear c7 hlen D7 hb tr tr8 hps hpl
          go_wp2_with fail
          clear hlen8
          go_loopw [129] (fun i wr2 => ∃ u : Nat, u ≤ ps.length ∧ i = .int .i64 (u : Int) ∧ DT w wr2 t L d q B f2 ps.length ∧ TR wr2 a ps) (fun i _ => ps.length - (intOf i).toNat)
          case atStart => exact ⟨0, Nat.zero_le _, rfl, by rw [Hpl.out]; exact D8, trn⟩
          case round =>
            clear D8 trn
            obtain ⟨u, hu, rfl, Du, tru⟩ := hrel
            have hpl := Hpl.out
            by_cases hlt2 : u < ps.length
            · first
              | (exfalso; omega)
              | skip
              all_goals
                have l1 : (u : Int) < (k2 : Int) := by omega
                have l0 : (0 : Int) ≤ (u : Int) := by omega
                obtain ⟨xa, rfl, xc⟩ := tru u hlt2
                obtain ⟨hl, v, hv⟩ := Hps.out u hlt2
                have cu := Du.cell
                have hs2 := hl.size
                generalize ps[u] = nm at *
                have Hle := Lib.hid hpl
                clear hpl
                go_wp2_with fail
                refine (t_find hM Du nm hl v hv).mono ?_; rintro e W9 ⟨rfl, D9, tr9⟩
                obtain ⟨v1, hlook2, hv1⟩ := D9.sm.look nm (by omega)
                obtain rfl := hv1 v hv
                rw [hv] at hlook2
                simp only [Option.isSome_some] at hlook2
                have tr10 := tr9 _ _ tru
                clear Du cu tru tr9 xc hv hv1 hs2
                go_wp2_with fail
                exact ⟨⟨u + 1, by omega, by go_num, D9, tr10⟩, by simp [intOf]; omega⟩
            · obtain rfl : u = ps.length := by omega
              clear tru hu hlt2 Hps
              go_wp2_with fail
              exact ⟨⟨j + 1, f2, _, by omega, by go_num, Du⟩, by simp [intOf]; omega⟩
    · clear w0
      rcases (show (len0 ≤ j ∧ (len0 : Int) ≤ j) ∨ (j < len0 ∧ (j : Int) < len0 ∧ (40 : Int) ≤ j) by omega) with ⟨l1, l2⟩ | ⟨l1, l2, l3⟩
      all_goals
        go_wp2_with fail
        refine (t_size D).mono ?_; rintro e W7 ⟨z, hz, rfl, b7⟩
        clear D c6
        go_wp2_with fail
        refine (druns_any _ (hM.below (Nat.le_refl _) b7)).mono ?_; rintro e W8 ⟨rfl, b8⟩
        go_wp2_with fail
        go_ret
        exact ⟨rfl, b7.trans (b8.mono b7.size)⟩
end Go.Proofs.Ytcefigpdodlonaa.St
