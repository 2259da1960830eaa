/- The walk of cloisterlaw12.PathRoot. No condition but those written in each statement. -/
import Derived.Test.YtcefigpdodlonaaDoorPatH
import Derived.Deep.RegionHeld3
import Derived.Deep.DrawnRows
namespace Go.Proofs.YtcefigpdodlonaaDoor.St
open Go.RowKit
set_option linter.unusedVariables false

/-! ### the same path, written otherwise -/
theorem ok_iff {l : List UInt8} (h0 : 0 < l.length) (h1 : l.length ≤ 60) : splOk l = (namesL l).all rightL := splOk_is h0 h1
theorem splN_is (l : List UInt8) : splN l = if splOk l = true then nmB l else [] := rfl
/-- Two texts of the same names lead to the same. -/
theorem pWalk_same {st : VSt} {c c' : Int} {p q : ByteArray} (h0 : 0 < p.size) (h1 : p.size ≤ 60) (g0 : 0 < q.size) (g1 : q.size ≤ 60) (hn : namesL p.data.toList = namesL q.data.toList)
    (hb : (if (p.data.toList.head? == some 47) = true then (1 : Int) else c) = if (q.data.toList.head? == some 47) = true then (1 : Int) else c') : pWalk st c p = pWalk st c' q := by
  have e : splOk p.data.toList = splOk q.data.toList := by
    rw [ok_iff (by rw [size_list]; exact h0) (by rw [size_list]; exact h1), ok_iff (by rw [size_list]; exact g0) (by rw [size_list]; exact g1), hn]
  unfold pWalk
  rw [← e]
  cases hk : splOk p.data.toList with
  | false => rfl
  | true =>
    rw [hk] at e
    rw [if_pos rfl, if_pos rfl, splB_of hk, splB_of e.symm, hb, splN_is, splN_is, hk, ← e, if_pos rfl, if_pos rfl]
    unfold nmB; rw [hn]
theorem names_nil : namesL [] = [] := rfl
theorem names_slash (l : List UInt8) : namesL (47 :: l) = namesL l := by
  have := namesL_append [] l
  rw [names_nil, List.nil_append, List.nil_append] at this; exact this
theorem names_end (l : List UInt8) : namesL (l ++ [47]) = namesL l := by
  have := namesL_append l []
  rw [names_nil, List.append_nil] at this; exact this
theorem app_list (a b : ByteArray) : (a ++ b : ByteArray).data.toList = a.data.toList ++ b.data.toList := by rw [ByteArray.data_append, Array.toList_append]

section
variable {st : VSt} {m : Nat} {K : Int → Bool} {R : Int → List Ent} {par : Int → Int} {p : ByteArray} {c : Int}
theorem root2 (hp : p.size ≤ 20) : pWalk st 1 (⟨#[47, 47, 47]⟩ ++ p) = pWalk st c (⟨#[47]⟩ ++ p) :=
  pWalk_same (by rw [ByteArray.size_append]; show 0 < 3 + p.size; omega) (by rw [ByteArray.size_append]; show 3 + p.size ≤ 60; omega) (by rw [ByteArray.size_append]; show 0 < 1 + p.size; omega) (by rw [ByteArray.size_append]; show 1 + p.size ≤ 60; omega)
    (by rw [app_list, app_list]; show namesL (47 :: 47 :: 47 :: p.data.toList) = namesL (47 :: p.data.toList); rw [names_slash, names_slash]) (by rw [app_list, app_list]; rfl)
theorem root3 (hp : p.size ≤ 20) : pWalk st 2 ((⟨#[47]⟩ ++ p) ++ ⟨#[47]⟩) = pWalk st c (⟨#[47]⟩ ++ p) :=
  pWalk_same (by rw [ByteArray.size_append, ByteArray.size_append]; show 0 < 1 + p.size + 1; omega) (by rw [ByteArray.size_append, ByteArray.size_append]; show 1 + p.size + 1 ≤ 60; omega) (by rw [ByteArray.size_append]; show 0 < 1 + p.size; omega) (by rw [ByteArray.size_append]; show 1 + p.size ≤ 60; omega)
    (by rw [app_list]; exact names_end _) (by rw [app_list, app_list]; rfl)
theorem root4 (G : GT st m K R par) (hp : p.size ≤ 20) (h0 : 0 < p.size) (hh : p.data.toList.head? ≠ some 47) (hd : isD m K c = true) : pWalk st c (⟨#[46, 47]⟩ ++ p) = pWalk st c p := by
  have e1 : (⟨#[46, 47]⟩ ++ p : ByteArray).data.toList = [46] ++ 47 :: p.data.toList := by rw [app_list]; rfl
  have hn : namesL ([46] ++ 47 :: p.data.toList) = [46] :: namesL p.data.toList := by rw [namesL_append]; rfl
  have hs : ([46] ++ 47 :: p.data.toList).length = p.size + 2 := by simp
  have e2 : splOk ([46] ++ 47 :: p.data.toList) = splOk p.data.toList := by
    rw [ok_iff (by omega) (by omega), ok_iff (by rw [size_list]; exact h0) (by rw [size_list]; omega), hn, List.all_cons]
    rfl
  unfold pWalk
  rw [e1, e2]
  cases hk : splOk p.data.toList with
  | false => rfl
  | true =>
    rw [hk] at e2
    have b1 : splB ([46] ++ 47 :: p.data.toList) = false := by rw [splB_of e2]; rfl
    have b2 : splB p.data.toList = false := by rw [splB_of hk]; exact beq_eq_false_iff_ne.2 hh
    rw [if_pos rfl, if_pos rfl, b1, b2, if_neg (by decide), splN_is, splN_is, e2, hk, if_pos rfl, if_pos rfl]
    have e3 : nmB ([46] ++ 47 :: p.data.toList) = dotB :: nmB p.data.toList := by unfold nmB; rw [hn]; rfl
    rw [e3]
    unfold walkO
    obtain ⟨i1, i2, _⟩ := isD_in hd
    obtain ⟨d1, d2, _⟩ := G.dot hd
    rw [G.has_in i1 i2, if_pos rfl, if_pos rfl, walk_step d1 d2 (G.has_in i1 i2)]
theorem root5 : pWalk st c ⟨#[]⟩ = none := rfl
theorem root6 (x : ByteArray) (h : 60 < x.size) : pWalk st c x = none := by
  unfold pWalk
  have : splOk x.data.toList = false := splOk_no (Or.inr (by rw [size_list]; exact h))
  rw [this]; rfl
theorem root7 (G : GT st m K R par) : pWalk st 15 ⟨#[97]⟩ = none := by
  unfold pWalk
  have h : iHas st 15 = false := by rw [G.has]; have := G.le; rw [decide_eq_false (by omega : ¬ (15 : Int) ≤ (m : Int)), Bool.and_false]
  have e : splOk (ByteArray.mk #[97]).data.toList = true ∧ splB (ByteArray.mk #[97]).data.toList = false := by decide +kernel
  rw [e.1, e.2, if_pos rfl, if_neg (by decide)]
  unfold walkO
  rw [h]; rfl
end

section
variable {w W : World} {t : Nat} {L : Lay} {d q : Nat} {m : Nat} {K : Int → Bool} {R : Int → List Ent} {par : Int → Int}
/-- A tree, and where a path leads in it. -/
def PX (w W : World) (t : Nat) (L : Lay) (d q : Nat) (m : Nat) (K : Int → Bool) (R : Int → List Ent) (par : Int → Int) (c : Int) (p : ByteArray) (A B : Option Int) : Prop :=
  ∃ st, GT st m K R par ∧ Std w t L d q st W ∧ pWalk st c (⟨#[47]⟩ ++ p) = A ∧ pWalk st c (⟨#[46, 47]⟩ ++ p) = B
theorem pWalk_get {st st' : VSt} (e : ∀ k n, st'.get k n = st.get k n) (c : Int) (x : ByteArray) : pWalk st' c x = pWalk st c x := by
  have hh : ∀ i, iHas st' i = iHas st i := fun i => by unfold iHas; rw [e]
  unfold pWalk walkO
  simp only [hh, walkE_same e]
theorem PX.to {W' : World} {c : Int} {p : ByteArray} {A B : Option Int} (st st' : VSt) (G : GT st m K R par) (h1 : pWalk st c (⟨#[47]⟩ ++ p) = A) (h2 : pWalk st c (⟨#[46, 47]⟩ ++ p) = B) (e : ∀ k n, st'.get k n = st.get k n) (S : Std w t L d q st' W') : PX w W' t L d q m K R par c p A B :=
  ⟨st', G.same e, S, by rw [pWalk_get e]; exact h1, by rw [pWalk_get e]; exact h2⟩
theorem PX.cell {c : Int} {p : ByteArray} {A B : Option Int} (P : PX w W t L d q m K R par c p A B) : W.cell? ⟨t, 1, none⟩ = some (.pointer (some ⟨L.v, 0, none⟩)) := by
  obtain ⟨st, _, S, _⟩ := P; exact S.cell
theorem PX.b {c : Int} {p : ByteArray} {A B : Option Int} (P : PX w W t L d q m K R par c p A B) : Below w.heap.size w W := by
  obtain ⟨st, _, S, _⟩ := P; exact S.b
theorem PX.below {W' : World} {c : Int} {p : ByteArray} {A B : Option Int} (P : PX w W t L d q m K R par c p A B) (h : Below W.heap.size W W') : PX w W' t L d q m K R par c p A B := by
  obtain ⟨st, G, S, x⟩ := P; exact ⟨st, G, S.below h, x⟩
section
variable {c : Int} {p : ByteArray} {A B : Option Int}
theorem px_walk (hM : Mx w) (P : PX w W t L d q m K R par c p A B) (i : Int) (x : ByteArray) (V : Option Int) (hx : x.size ≤ 100) (hv : ∀ st, GT st m K R par → pWalk st c (⟨#[47]⟩ ++ p) = A → pWalk st c (⟨#[46, 47]⟩ ++ p) = B → pWalk st i x = V) : Calls Tryd.prog 7 #[.pointer (some ⟨L.v, 0, none⟩), .int .i64 i, .string x] W fun e W' => e = .returned (.tuple #[.int .i64 (V.getD 0), .bool V.isSome]) ∧ PX w W' t L d q m K R par c p A B := by
  obtain ⟨st, G, S, h1, h2⟩ := P
  have h := g_Walk hM S G i x (by omega)
  rw [hv st G h1 h2] at h
  exact h.mono fun e W' ⟨a, st', e1, S'⟩ => ⟨a, PX.to st st' G h1 h2 e1 S'⟩
theorem px_is (P : PX w W t L d q m K R par c p A B) (i : Int) : Calls Tryd.prog 12 #[.pointer (some ⟨L.v, 0, none⟩), .int .i64 i] W fun e W' => ∃ b, e = .returned (.bool b) ∧ (b = true → isD m K i = true) ∧ PX w W' t L d q m K R par c p A B := by
  obtain ⟨st, G, S, h1, h2⟩ := P
  have h := s_isdir S i
  rw [G.type] at h
  exact h.mono fun e W' ⟨a, S', _⟩ => ⟨_, a, id, PX.to st _ G h1 h2 (fun k n => get_iSaw _ _ _ _) S'⟩
end
end
/-- Sixty-one noughts as a text. -/
theorem zeros_info : (Tryd.prog.info? 5).map (fun i => (i.zero, i.size, i.bytes)) = some (some (.int .u8 0), 1, 1) := by kernel_rfl
def Z61 : ByteArray := (List.replicate 61 (0 : Int)).foldl (fun r n => r.push (UInt8.ofNat n.toNat)) ByteArray.empty
theorem Z61_size : Z61.size = 61 := by unfold Z61; rw [fold_bytes]; rfl
theorem run_zeros (W : World) : (convert 39 9 (.slice (some ⟨W.heap.size, 0, none⟩) 61 61)).run Tryd.prog (W.alloc (.cells (madeCells #[.int .u8 0] 61) 5)) = .ok (.string Z61) (W.alloc (.cells (madeCells #[.int .u8 0] 61) 5)) :=
  run_text_of _ 39 9 5 W.heap.size 61 61 (fun _ => .int .u8 0) (List.replicate 61 0) Tryd.underlying39 Tryd.underlying5 Tryd.underlying9 (World.rowIs_made W (.int .u8 0) 61 5) (by simp) (fun i hi => by rw [List.getElem_replicate])
theorem run_zerosd (W : World) : (convert 39 9 (.slice (some ⟨W.heap.size, 0, none⟩) 61 61)).run Tryd.prog (W.alloc (.cells (madeCells #[.int .u8 0] 61) 5)).drew = .ok (.string Z61) (W.alloc (.cells (madeCells #[.int .u8 0] 61) 5)).drew := by
  have h := World.rowIs_made W (.int .u8 0) 61 5
  exact run_text_of _ 39 9 5 W.heap.size 61 61 (fun _ => .int .u8 0) (List.replicate 61 0) Tryd.underlying39 Tryd.underlying5 Tryd.underlying9 h (by simp) (fun i hi => by rw [List.getElem_replicate])
theorem head_at (p : ByteArray) (h : 0 < p.size) : p.data.toList.head? = some p[0] := by
  obtain ⟨h2, e⟩ := at_list p 0 h
  rw [List.head?_eq_getElem?, List.getElem?_eq_getElem h2, e]

attribute [local irreducible] Int.lt Int.le csN trN
attribute [local go_sem ↓] Go.wp_at_zero Go.wp_at_succ
set_option maxRecDepth 100000 in
set_option maxHeartbeats 4000000 in
theorem pathRoot_walk (a0 : Option Addr) (len0 cap0 : Nat) (a1 : Int) (a2 : ByteArray) (w : World) (w0 : IsMix [.int .i64, .int .i64, .bool] w a0 len0 cap0) (w1 : (Lit.int .i64 a1).wf = true) (w2 : a2.size ≤ maxLen) (hM : Mx w) :
    Calls Tryd.prog 5 #[.slice a0 len0 cap0, .int .i64 a1, .string a2] w fun e w' => e = .returned (.bool true) ∧ Below w.heap.size w w' := by
  go_enter Tryd.func5, Tryd.ntmps5
  go_wp2_with fail
  refine (grown_any _ _ _ _ w0 hM).mono ?_; rintro e W1 ⟨t, d, q, L, rfl, st1, m, K, R, par, G1, S1⟩
  have c1 := S1.cell
  have hsz : (a2.extract 0 (min (a2.size : Int) 20).toNat).size ≤ 20 := by rw [ByteArray.size_extract]; omega
  go_wp2_with fail
  generalize a2.extract 0 (min (a2.size : Int) 20).toNat = p at *
  clear w0 w2
  have wb := Fp.within_bounds a1 1 12 (by omega)
  refine (Fp.within_any a1 1 12 (by omega) (by omega) (by omega) _).mono ?_; rintro e Wx ⟨rfl, rfl⟩
  generalize Fp.withinI a1 1 12 = cc at *
  have g1 : 1 ≤ cc := wb.1
  clear wb
  have hh := g_has S1 G1 cc
  rw [decide_eq_true g1, Bool.true_and] at hh
  have hcase : (decide (cc ≤ (m : Int)) = true) ∨ (decide (cc ≤ (m : Int)) = false) := by cases decide (cc ≤ (m : Int)) <;> simp
  go_wp2_with fail
  rcases hcase with hc | hc
  case' inl =>
    rw [hc] at hh
    refine hh.mono ?_; rintro e W2 ⟨rfl, st2, G2, _, S2⟩
    have c2 := S2.cell
    clear S1 c1 G1 hh hc
    obtain ⟨z, hz⟩ : ∃ z, z = cc := ⟨_, rfl⟩
    rw [← hz]
    clear hz g1
    obtain ⟨A, B, P2⟩ : ∃ A B, PX w W2 t L d q m K R par z p A B := ⟨_, _, st2, G2, S2, rfl, rfl⟩
    clear G2 S2
  case' inr =>
    rw [hc] at hh
    refine hh.mono ?_; rintro e W2 ⟨rfl, st2, G2, _, S2⟩
    have c2 := S2.cell
    clear S1 c1 G1 hh hc g1
    obtain ⟨A, B, P2⟩ : ∃ A B, PX w W2 t L d q m K R par 1 p A B := ⟨_, _, st2, G2, S2, rfl, rfl⟩
    clear G2 S2
  all_goals
    have hps : (p.size : Int) ≤ 20 := by omega
    go_wp2_with fail
    have Hsz := Lib.hid hsz
    clear hsz
    refine (px_walk hM P2 _ _ A (by rw [ByteArray.size_append]; show 1 + p.size ≤ 100; omega) (fun st G h1 h2 => h1)).mono ?_; rintro e W3 ⟨rfl, P3⟩
    have c3 := P3.cell
    clear P2 c2
    go_wp2_with fail
    refine (px_walk hM P3 _ _ A (by rw [ByteArray.size_append]; show 3 + p.size ≤ 100; omega) (fun st G h1 h2 => (root2 Hsz.out).trans h1)).mono ?_; rintro e W4 ⟨rfl, P4⟩
    have c4 := P4.cell
    clear P3 c3
    go_wp2_with fail
    refine (px_walk hM P4 _ _ A (by rw [ByteArray.size_append, ByteArray.size_append]; show 1 + p.size + 1 ≤ 100; omega) (fun st G h1 h2 => (root3 Hsz.out).trans h1)).mono ?_; rintro e W5 ⟨rfl, P5⟩
    have c5 := P5.cell
    clear P4 c4
    go_wp2_with fail
    refine (px_walk hM P5 _ _ B (by rw [ByteArray.size_append]; show 2 + p.size ≤ 100; omega) (fun st G h1 h2 => h2)).mono ?_; rintro e W6 ⟨rfl, P6⟩
    have c6 := P6.cell
    clear P5 c5
    go_wp2_with fail
    refine (px_is P6 _).mono ?_; rintro e W7 ⟨b, rfl, hb, P7⟩
    have c7 := P7.cell
    clear P6 c6
    have hcase : (b = false) ∨ (b = true ∧ p.size = 0) ∨ (b = true ∧ ∃ h : 0 < p.size, p[0] = 47) ∨ (b = true ∧ ∃ h : 0 < p.size, p[0] ≠ 47) := by
      cases b with
      | false => exact Or.inl rfl
      | true =>
        by_cases h : 0 < p.size
        · by_cases h2 : p[0] = 47
          · exact Or.inr (Or.inr (Or.inl ⟨rfl, h, h2⟩))
          · exact Or.inr (Or.inr (Or.inr ⟨rfl, h, h2⟩))
        · exact Or.inr (Or.inl ⟨rfl, by omega⟩)
    rcases hcase with rfl | ⟨rfl, h0⟩ | ⟨rfl, h0, h1⟩ | ⟨rfl, h0, h1⟩
    · clear hb
      go_wp2_with fail
      have P8 := P7
      have c8 := c7
      refine (px_walk hM P8 _ _ none (by decide) (fun st G q1 q2 => root5)).mono ?_; rintro e W9 ⟨rfl, P9⟩
      have c9 := P9.cell
      clear P8 c8
      go_wp2_with fail
      have c9d : W9.drew.cell? ⟨t, 1, none⟩ = some (.pointer (some ⟨L.v, 0, none⟩)) := c9
      have PAd := P9.below (((Below.refl W9.heap.size W9).alloc (Nat.le_refl _) (Obj.cells (madeCells #[.int .u8 0] 61) 5)).drew)
      have cA := PAd.cell
      have hmk : ∀ w : World, (Instr.makeSlice 39 (.int .i64 61) (.int .i64 61)).run Tryd.prog w = .ok (.slice (some ⟨w.heap.size, 0, none⟩) 61 61) (w.alloc (.cells (madeCells #[.int .u8 0] 61) 5)) := run_make_row' (P := Tryd.prog) 39 5 (.int .u8 0) 1 Tryd.underlying39 zeros_info rfl .i64 .i64 61 (by decide) (by decide)
      have hz1 := run_zeros
      have hz2 := run_zerosd
      clear P9 c9 Hsz
      go_region_held (fun W => W.cell? ⟨t, 1, none⟩ = some (.pointer (some ⟨L.v, 0, none⟩)))
        (assumption)
        (first
        | (go_at_call 7; refine (px_walk hM PAd _ _ none (by rw [Z61_size]; decide) (fun st G q1 q2 => root6 _ (by rw [Z61_size]; decide))).mono ?_; rintro e Wa ⟨rfl, Pa⟩; have ca := Pa.cell))
      all_goals
        clear c9d PAd cA hmk hz1 hz2
        go_wp2_with fail
        refine (px_walk hM Pa _ _ none (by decide) (fun st G q1 q2 => root7 G)).mono ?_; rintro e Wb ⟨rfl, Pb⟩
        have bb := Pb.b
        clear Pa ca Pb
        go_wp2_with fail
        refine (pathRuns_any _ (hM.below (Nat.le_refl _) bb)).mono ?_; rintro e Wc ⟨rfl, bc⟩
        go_wp2_with fail
        go_ret
        exact ⟨rfl, bb.trans (bc.mono bb.size)⟩
    · clear hb
      have h0' : (p.size : Int) = 0 := by omega
      obtain rfl := empty_toList h0
      go_wp2_with fail
      have P8 := P7
      have c8 := c7
      refine (px_walk hM P8 _ _ none (by decide) (fun st G q1 q2 => root5)).mono ?_; rintro e W9 ⟨rfl, P9⟩
      have c9 := P9.cell
      clear P8 c8
      go_wp2_with fail
      have c9d : W9.drew.cell? ⟨t, 1, none⟩ = some (.pointer (some ⟨L.v, 0, none⟩)) := c9
      have PAd := P9.below (((Below.refl W9.heap.size W9).alloc (Nat.le_refl _) (Obj.cells (madeCells #[.int .u8 0] 61) 5)).drew)
      have cA := PAd.cell
      have hmk : ∀ w : World, (Instr.makeSlice 39 (.int .i64 61) (.int .i64 61)).run Tryd.prog w = .ok (.slice (some ⟨w.heap.size, 0, none⟩) 61 61) (w.alloc (.cells (madeCells #[.int .u8 0] 61) 5)) := run_make_row' (P := Tryd.prog) 39 5 (.int .u8 0) 1 Tryd.underlying39 zeros_info rfl .i64 .i64 61 (by decide) (by decide)
      have hz1 := run_zeros
      have hz2 := run_zerosd
      clear P9 c9 Hsz
      go_region_held (fun W => W.cell? ⟨t, 1, none⟩ = some (.pointer (some ⟨L.v, 0, none⟩)))
        (assumption)
        (first
        | (go_at_call 7; refine (px_walk hM PAd _ _ none (by rw [Z61_size]; decide) (fun st G q1 q2 => root6 _ (by rw [Z61_size]; decide))).mono ?_; rintro e Wa ⟨rfl, Pa⟩; have ca := Pa.cell))
      all_goals
        clear c9d PAd cA hmk hz1 hz2
        go_wp2_with fail
        refine (px_walk hM Pa _ _ none (by decide) (fun st G q1 q2 => root7 G)).mono ?_; rintro e Wb ⟨rfl, Pb⟩
        have bb := Pb.b
        clear Pa ca Pb
        go_wp2_with fail
        refine (pathRuns_any _ (hM.below (Nat.le_refl _) bb)).mono ?_; rintro e Wc ⟨rfl, bc⟩
        go_wp2_with fail
        go_ret
        exact ⟨rfl, bb.trans (bc.mono bb.size)⟩
    · clear hb
      have l0 : (0 : Int) < (p.size : Int) := by omega
      have l1 : ((p[0].toNat : Int) == 47) = true := by rw [h1]; rfl
      go_wp2_with fail
      have P8 := P7
      have c8 := c7
      refine (px_walk hM P8 _ _ none (by decide) (fun st G q1 q2 => root5)).mono ?_; rintro e W9 ⟨rfl, P9⟩
      have c9 := P9.cell
      clear P8 c8
      go_wp2_with fail
      have c9d : W9.drew.cell? ⟨t, 1, none⟩ = some (.pointer (some ⟨L.v, 0, none⟩)) := c9
      have PAd := P9.below (((Below.refl W9.heap.size W9).alloc (Nat.le_refl _) (Obj.cells (madeCells #[.int .u8 0] 61) 5)).drew)
      have cA := PAd.cell
      have hmk : ∀ w : World, (Instr.makeSlice 39 (.int .i64 61) (.int .i64 61)).run Tryd.prog w = .ok (.slice (some ⟨w.heap.size, 0, none⟩) 61 61) (w.alloc (.cells (madeCells #[.int .u8 0] 61) 5)) := run_make_row' (P := Tryd.prog) 39 5 (.int .u8 0) 1 Tryd.underlying39 zeros_info rfl .i64 .i64 61 (by decide) (by decide)
      have hz1 := run_zeros
      have hz2 := run_zerosd
      clear P9 c9 Hsz
      go_region_held (fun W => W.cell? ⟨t, 1, none⟩ = some (.pointer (some ⟨L.v, 0, none⟩)))
        (assumption)
        (first
        | (go_at_call 7; refine (px_walk hM PAd _ _ none (by rw [Z61_size]; decide) (fun st G q1 q2 => root6 _ (by rw [Z61_size]; decide))).mono ?_; rintro e Wa ⟨rfl, Pa⟩; have ca := Pa.cell))
      all_goals
        clear c9d PAd cA hmk hz1 hz2
        go_wp2_with fail
        refine (px_walk hM Pa _ _ none (by decide) (fun st G q1 q2 => root7 G)).mono ?_; rintro e Wb ⟨rfl, Pb⟩
        have bb := Pb.b
        clear Pa ca Pb
        go_wp2_with fail
        refine (pathRuns_any _ (hM.below (Nat.le_refl _) bb)).mono ?_; rintro e Wc ⟨rfl, bc⟩
        go_wp2_with fail
        go_ret
        exact ⟨rfl, bb.trans (bc.mono bb.size)⟩
    · have l0 : (0 : Int) < (p.size : Int) := by omega
      have l1 : ((p[0].toNat : Int) == 47) = false := byte47 h1
      have HB := Lib.hid hb
      have HH := Lib.hid (show p.data.toList.head? ≠ some 47 by rw [head_at p h0]; intro e; exact h1 (Option.some.inj e))
      clear hb
      go_wp2_with fail
      refine (px_walk hM P7 _ _ B (by have := Hsz.out; omega) (fun st G q1 q2 => (root4 G Hsz.out h0 HH.out (HB.out (by first | rfl | trivial))).symm.trans q2)).mono ?_; rintro e W8 ⟨rfl, P8⟩
      have c8 := P8.cell
      clear P7 c7 HB HH
      go_wp2_with fail
      refine (px_walk hM P8 _ _ none (by decide) (fun st G q1 q2 => root5)).mono ?_; rintro e W9 ⟨rfl, P9⟩
      have c9 := P9.cell
      clear P8 c8
      go_wp2_with fail
      have c9d : W9.drew.cell? ⟨t, 1, none⟩ = some (.pointer (some ⟨L.v, 0, none⟩)) := c9
      have PAd := P9.below (((Below.refl W9.heap.size W9).alloc (Nat.le_refl _) (Obj.cells (madeCells #[.int .u8 0] 61) 5)).drew)
      have cA := PAd.cell
      have hmk : ∀ w : World, (Instr.makeSlice 39 (.int .i64 61) (.int .i64 61)).run Tryd.prog w = .ok (.slice (some ⟨w.heap.size, 0, none⟩) 61 61) (w.alloc (.cells (madeCells #[.int .u8 0] 61) 5)) := run_make_row' (P := Tryd.prog) 39 5 (.int .u8 0) 1 Tryd.underlying39 zeros_info rfl .i64 .i64 61 (by decide) (by decide)
      have hz1 := run_zeros
      have hz2 := run_zerosd
      clear P9 c9 Hsz
      go_region_held (fun W => W.cell? ⟨t, 1, none⟩ = some (.pointer (some ⟨L.v, 0, none⟩)))
        (assumption)
        (first
        | (go_at_call 7; refine (px_walk hM PAd _ _ none (by rw [Z61_size]; decide) (fun st G q1 q2 => root6 _ (by rw [Z61_size]; decide))).mono ?_; rintro e Wa ⟨rfl, Pa⟩; have ca := Pa.cell))
      all_goals
        clear c9d PAd cA hmk hz1 hz2
        go_wp2_with fail
        refine (px_walk hM Pa _ _ none (by decide) (fun st G q1 q2 => root7 G)).mono ?_; rintro e Wb ⟨rfl, Pb⟩
        have bb := Pb.b
        clear Pa ca Pb
        go_wp2_with fail
        refine (pathRuns_any _ (hM.below (Nat.le_refl _) bb)).mono ?_; rintro e Wc ⟨rfl, bc⟩
        go_wp2_with fail
        go_ret
        exact ⟨rfl, bb.trans (bc.mono bb.size)⟩
end Go.Proofs.YtcefigpdodlonaaDoor.St
