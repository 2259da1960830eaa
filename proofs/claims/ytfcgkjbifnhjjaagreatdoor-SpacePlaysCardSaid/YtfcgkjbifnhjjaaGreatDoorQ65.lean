/- The contract of the document's own Grow over its own view. For a process that is there, at most 1000 pages. The contracts of the document's own Shrink and Back over its own view. For a process that is there, texts of at most 1000 bytes. The contract of the document's own Back over its own view. For at most 1000 pages. No condition but those written in each statement. -/
import Derived.Test.YtfcgkjbifnhjjaaGreatDoorRfSQ
import Derived.Deep.CutBlock
namespace Go.Proofs.YtfcgkjbifnhjjaaGreatDoor.St
open Go.RowKit
set_option linter.unusedVariables false
/-! ### the pages that are taken, seen bit by bit -/
theorem gN_next {a : Int} {k i : Nat} (hi : i < 64) (hlo : ∀ b, b < i → usedI (gN a k) b = false) (hu : usedI (gN a k) i = true) :
    gN a (k + 1) = unmarkN (gN a k) i ∧ gC a k = ⟨#[UInt8.ofNat i]⟩ := by
  have hz : (IntKind.u64.wrap (gN a k) == 0) = false := by
    apply some_free
    have h1 := ones_unmark (gN a k) i hi hu
    have h2 := (ones_bounds (unmarkN (gN a k) i)).1
    omega
  obtain ⟨u, hu64, e, hu1, hu2⟩ := tz_used _ hz
  have : u = i := by
    rcases Nat.lt_trichotomy u i with c | c | c
    · rw [hlo u c] at hu1; cases hu1
    · exact c
    · rw [hu2 i c] at hu; cases hu
  subst this
  have e1 : gN a (k + 1) = unmarkN (gN a k) (tz64 (IntKind.u64.wrap (gN a k))).toNat := rfl
  have e2 : gC a k = ⟨#[UInt8.ofNat (tz64 (IntKind.u64.wrap (gN a k))).toNat]⟩ := rfl
  rw [e1, e2, e, Int.toNat_natCast]; exact ⟨rfl, rfl⟩
theorem cnt_none {f : Nat → Bool} : ∀ n, (∀ i, i < n → f i = false) → cntB f n = 0
  | 0, _ => rfl
  | n + 1, h => by
    unfold cntB
    rw [cnt_none n (fun i hi => h i (by omega)), h n (by omega)]; rfl
theorem gN_none {a : Int} (h : ∀ b, b < 64 → usedI a b = false) : ones64 (IntKind.u64.wrap a) = 0 := by
  rw [ones_cnt, cnt_none 64 (fun i hi => by rw [← used_bit a i hi]; exact h i hi)]; rfl
/-- How many pages are free behind so many taken. -/
theorem ones_fun (a : Int) : ∃ F : Nat → Int, ones64 (IntKind.u64.wrap a) = F 0 ∧ (∀ k, 0 ≤ F k) ∧ (∀ k i, i < 64 → (∀ b, b < i → usedI (gN a k) b = false) → usedI (gN a k) i = true → F (k + 1) = F k - 1) ∧ ∀ k, (∀ b, b < 64 → usedI (gN a k) b = false) → F k = 0 := by
  refine ⟨fun k => ones64 (IntKind.u64.wrap (gN a k)), rfl, fun k => (ones_bounds _).1, fun k i hi hlo hu => ?_, fun k h => gN_none h⟩
  show ones64 (IntKind.u64.wrap (gN a (k + 1))) = ones64 (IntKind.u64.wrap (gN a k)) - 1
  rw [(gN_next hi hlo hu).1]
  exact ones_unmark _ i hi hu
theorem noughts_zero (m : Val) : m.text (m.s ++ noughts (16 * 0)) = m := by
  have e : m.s ++ noughts (16 * 0) = m.s := by
    apply ByteArray.ext
    rw [ByteArray.data_append]
    show m.s.data ++ #[] = m.s.data
    simp
  rw [e]; rfl
/-- Two writes of different objects may be told in either order. -/
theorem put_comm (st : VSt) (a b c d : Int) (x y : Val) (h : ¬(a = c ∧ b = d)) : (st.put a b x).put c d y = (st.put c d y).put a b x := by
  unfold VSt.put
  by_cases h1 : placeI a b < 0
  · rw [if_pos h1, if_pos h1]
  · by_cases h2 : placeI c d < 0
    · rw [if_pos h2, if_pos h2]
    · rw [if_neg h1, if_neg h2, if_neg h2, if_neg h1]
      congr 1
      funext k n
      show updV (updV st.wr a b x) c d y k n = updV (updV st.wr c d y) a b x k n
      unfold updV
      by_cases e1 : k = a ∧ n = b
      · have e3 : ¬(k = c ∧ n = d) := fun e2 => h ⟨e1.1.symm.trans e2.1, e1.2.symm.trans e2.2⟩
        rw [if_pos e1, if_neg e3, if_pos e1]
      · by_cases e2 : k = c ∧ n = d
        · rw [if_pos e2, if_neg e1, if_pos e2]
        · rw [if_neg e2, if_neg e1, if_neg e1, if_neg e2]
theorem sixteen (N : Nat) : ((N : Int) * 16).toNat = 16 * N := by omega
theorem noughts_add (a b : Nat) : noughts a ++ noughts b = noughts (a + b) := by
  apply ByteArray.ext
  rw [ByteArray.data_append]
  unfold noughts
  show (Lib.repeatL [(0 : UInt8)] a).toArray ++ (Lib.repeatL [(0 : UInt8)] b).toArray = (Lib.repeatL [(0 : UInt8)] (a + b)).toArray
  have e : ∀ n, Lib.repeatL [(0 : UInt8)] n = List.replicate n 0 := by
    intro n
    induction n with
    | zero => rfl
    | succ n ih => rw [Lib.repeatL, ih, List.replicate_succ]; rfl
  rw [e, e, e]; simp
theorem bz_info : (Tryz.prog.info? 5).map (fun i => (i.zero, i.size, i.bytes)) = some (some (.int .u8 0), 1, 1) := by kernel_rfl
theorem run_z16 (W : World) : (convert 73 9 (.slice (some ⟨W.heap.size, 0, none⟩) 16 16)).run Tryz.prog (W.alloc (.cells (madeCells #[.int .u8 0] 16) 5)) = .ok (.string (noughts 16)) (W.alloc (.cells (madeCells #[.int .u8 0] 16) 5)) :=
  run_text_of _ 73 9 5 W.heap.size 16 16 (fun _ => .int .u8 0) (List.replicate 16 0) Tryz.underlying73 Tryz.underlying5 Tryz.underlying9 (World.rowIs_made W (.int .u8 0) 16 5) (by simp) (fun i hi => by rw [List.getElem_replicate])
theorem run_z16d (W : World) : (convert 73 9 (.slice (some ⟨W.heap.size, 0, none⟩) 16 16)).run Tryz.prog (W.alloc (.cells (madeCells #[.int .u8 0] 16) 5)).drew = .ok (.string (noughts 16)) (W.alloc (.cells (madeCells #[.int .u8 0] 16) 5)).drew := by
  have h := World.rowIs_made W (.int .u8 0) 16 5
  exact run_text_of _ 73 9 5 W.heap.size 16 16 (fun _ => .int .u8 0) (List.replicate 16 0) Tryz.underlying73 Tryz.underlying5 Tryz.underlying9 h (by simp) (fun i hi => by rw [List.getElem_replicate])
/-- What the loop over the bits holds. -/
structure RGL (w W : World) (R : RLay) (st : VSt) (x m y : Val) (X M P Y k : Nat) : Prop where
  v : RViewAt W R st
  t : Turn (· = R.r) w W
  bx : blk W X = some (.cells (x.text (gS (y.n 0) x.s k)).cells 60 (0, 0))
  bm : blk W M = some (.cells (m.text (m.s ++ noughts (16 * k))).cells 60 (0, 0))
  bp : blk W P = some (.cells #[.int .i64 2, .int .i64 0] 57 (0, 0))
  bb : blk W Y = some (.cells (y.set 0 (gN (y.n 0) k)).cells 60 (0, 0))
attribute [local go_sem] blk_alloc_at blk_alloc_past blk_drew blk_drewN blk_setB_same blk_setB_other blk_setRow_other setRow_alloc_at setRow_alloc_past setRow_drewN setRow_drew setB_size setB_cell setB_frozen setB_alloc_past setB_drewN setB_drew run_loadV loadOr_cells run_storeV storeOr_cells cells_size ones_cells cells_0 cells_1 cells_2 cells_16 cells_g0 cells_g1 cells_g2 cells_g16 cells_set0 cells_set1 cells_set2 cells_text run_field0 run_field1 run_index0
attribute [local go_sem ↓] execOp_loadV execOp_storeV
attribute [local irreducible] Int.lt Int.le
set_option maxRecDepth 100000 in
set_option maxHeartbeats 4000000 in
theorem rgrow_any (R : RLay) (st : VSt) (p : Int) (N : Nat) (h : (qState st p == 0) = false) (x m y : Val) (hx : st.get 4 p = x) (hm : st.get 12 p = m) (hy : st.get 2 0 = y) (hs : (x.s.size : Int) ≤ 1000) (hms : (m.s.size : Int) ≤ 1000) (hN : (N : Int) ≤ 9223372036854775807)
    (w : World) (hV : RViewAt w R st) :
    Calls Tryz.prog 7 #[.pointer (some ⟨R.q, 0, none⟩), .int .i64 p, .int .i64 (N : Int)] w fun e w' => e = .returned (.bool (grOk st p N)) ∧ RViewAt w' R (grEnd st p N) ∧ Turn (fun k => k = R.r ∨ k = R.m) w w' := by
  have lt := hV.lts
  have hz := zero_val
  obtain ⟨q, hq⟩ : ∃ q, q = qState st p := ⟨_, rfl⟩
  rw [← hq] at h
  obtain ⟨ok, hok⟩ : ∃ ok, ok = grOk st p (N : Int) := ⟨_, rfl⟩
  rw [← hok]
  obtain ⟨en, hen⟩ : ∃ en, en = grEnd st p (N : Int) := ⟨_, rfl⟩
  rw [← hen]
  unfold grOk at hok
  unfold grEnd at hen
  unfold grX grM grY at hen
  rw [hx, hy] at hok
  rw [hx, hy, hm] at hen
  obtain ⟨F, hF0, hFp, hFs, hFn⟩ := ones_fun (y.n 0)
  rw [hF0] at hok hen
  clear hF0
  have Hq := Lib.hid hq
  have Hok := Lib.hid hok
  have Hen := Lib.hid hen
  clear hok hen hq
  have hn : decide ((N : Int) < 0) = false := decide_eq_false (by omega)
  have n0 : (0 : Int) ≤ (N : Int) := by omega
  go_enter Tryz.func7, Tryz.ntmps7
  go_wp2_with fail
  refine (rstate_any R st p w hV).mono ?_; rw [← Hq.out]; rintro e w1 ⟨rfl, hv1, t1⟩
  clear hV Hq
  go_wp2_with fail
  refine (rpkey_any p _).mono ?_; rintro e w2 ⟨rfl, t2⟩
  have v2 := hv1.below t2
  have T2 := t1.trans (Turn.of_below t2 _)
  clear hv1 t1 t2
  go_wp2_with fail
  refine (rvget_any R _ 4 p (by decide) _ v2).mono ?_; rintro e w3 ⟨rfl, v3, t3⟩
  rw [get_qSaw, hx]
  have T3 := T2.trans t3
  clear v2 T2 t3
  go_wp2_with fail
  refine (rmkey_any p _).mono ?_; rintro e w4 ⟨rfl, t4⟩
  have v4 := v3.below t4
  have T4 := T3.trans (Turn.of_below t4 _)
  clear v3 T3 t4
  go_wp2_with fail
  refine (rvget_any R _ 12 p (by decide) _ v4).mono ?_; rintro e w5 ⟨rfl, v5, t5⟩
  rw [get_saw', get_qSaw, hm]
  have T5 := T4.trans t5
  rw [show ((qSaw st p).saw 4 p).saw 12 p = saw2 st p from rfl] at v5
  clear v4 T4 t5 hx hm
  have b6 : Below w5.heap.size w5 ((w5.alloc (Obj.cells x.cells 60)).alloc (Obj.cells m.cells 60)) := ((Below.refl _ _).alloc (Nat.le_refl _) _).alloc (by simp) _
  have r6 : blk ((w5.alloc (Obj.cells x.cells 60)).alloc (Obj.cells m.cells 60)) w5.heap.size = some (.cells x.cells 60 (0, 0)) := (blk_alloc_past _ _ _ (by simp)).trans (blk_alloc_at _ _ _ rfl)
  have s6 : blk ((w5.alloc (Obj.cells x.cells 60)).alloc (Obj.cells m.cells 60)) (w5.heap.size + 1) = some (.cells m.cells 60 (0, 0)) := blk_alloc_at _ _ _ (by simp)
  go_upto_region 4 with fail
  have v6 := v5.below b6
  have T6 := T5.trans (Turn.of_below b6 _)
  have zX := T5.size
  have lX := blk_lt r6
  have lM := blk_lt s6
  have lt5 := v5.lts
  clear v5 T5 b6
  generalize (w5.alloc (Obj.cells x.cells 60)).alloc (Obj.cells m.cells 60) = W6 at *
  generalize w5.heap.size = X at *
  have hy2 : (saw2 st p).get 2 0 = y := (get_saw2 _ _ _ _).trans hy
  have Hy2 := Lib.hid hy2
  clear hy2 hy
  have c16 : W6.cell? ⟨X, 16, none⟩ = some (.string x.s) := by rw [cell_of_row _ _ 16 _ _ _ r6]; exact cells_16 x
  by_cases hc : 6 - (x.s.size : Int) < (N : Int)
  · have H1 : ok = false ∧ en = saw2 st p := by
      refine ⟨by rw [Hok.out, decide_eq_true hc]; rfl, ?_⟩
      rw [Hen.out, if_pos hc]
    obtain ⟨rfl, rfl⟩ := H1
    have hcd : decide (6 - (x.s.size : Int) < (N : Int)) = true := decide_eq_true hc
    clear Hok Hen
    go_wp2_with fail
    go_ret
    exact ⟨rfl, v6, rmaps T6⟩
  have hcd : decide (6 - (x.s.size : Int) < (N : Int)) = false := decide_eq_false hc
  have hN' : (N : Int) ≤ 1000 := by omega
  clear hN
  have hN := hN'
  clear hN'
  have H1 : (N : Int) ≤ F 0 → ok = true ∧ en = ((((saw2 st p).saw 2 0).put 4 p (x.text (gS (y.n 0) x.s N))).put 12 p (m.text (m.s ++ noughts (16 * N)))).put 2 0 (y.set 0 (gN (y.n 0) N)) := by
    intro q
    refine ⟨by rw [Hok.out, hcd, decide_eq_false (by omega)]; rfl, ?_⟩
    rw [Hen.out, if_neg hc, if_neg (by omega), saw_twice, Int.toNat_natCast, sixteen]
  have H2 : ¬ (N : Int) ≤ F 0 → ok = false ∧ en = (saw2 st p).saw 2 0 := by
    intro q
    refine ⟨by rw [Hok.out, decide_eq_true (show F 0 < (N : Int) by omega)]; simp, ?_⟩
    rw [Hen.out, if_neg hc, if_pos (by omega)]
  have H1 := Lib.hid H1
  have H2 := Lib.hid H2
  clear Hok Hen
  have hx6 : (x.s.size : Int) ≤ 6 := by omega
  have b7 : Below W6.heap.size W6 (W6.alloc (Obj.cells #[.int .i64 2, .int .i64 0] 57)) := (Below.refl _ _).alloc (Nat.le_refl _) _
  have q7 : blk (W6.alloc (Obj.cells #[.int .i64 2, .int .i64 0] 57)) W6.heap.size = some (.cells #[.int .i64 2, .int .i64 0] 57 (0, 0)) := blk_alloc_at _ _ _ rfl
  go_upto_region 7 with fail
  have v7 := v6.below b7
  have T7 := T6.trans (Turn.of_below b7 _)
  have r7 := blk_below b7 r6 lX
  have s7 := blk_below b7 s6 lM
  have lP := blk_lt q7
  clear v6 T6 b7 r6 s6 c16
  generalize W6.alloc (Obj.cells #[.int .i64 2, .int .i64 0] 57) = W7 at *
  generalize W6.heap.size = P at *
  have k0 := cell_of_row _ _ 0 _ _ _ q7
  have k1 := cell_of_row _ _ 1 _ _ _ q7
  go_wp2_with fail
  refine (rvget_any R _ 2 0 (by decide) _ v7).mono ?_; rintro e w8 ⟨rfl, v8, t8⟩
  rw [Hy2.out]
  have T8 := T7.trans t8
  have r8 := blk_of_turn t8 r7 (show ¬ X = R.r by omega)
  have s8 := blk_of_turn t8 s7 (show ¬ X + 1 = R.r by omega)
  have q8 := blk_of_turn t8 q7 (show ¬ P = R.r by omega)
  have lY := t8.size
  have l8 : P < w8.heap.size := blk_lt q8
  clear v7 T7 r7 s7 q7 k0 k1 t8 lP
  have b9 : Below w8.heap.size w8 (w8.alloc (Obj.cells y.cells 60)) := (Below.refl _ _).alloc (Nat.le_refl _) _
  have I0 : RGL w (w8.alloc (Obj.cells y.cells 60)) R ((saw2 st p).saw 2 0) x m y X (X + 1) P w8.heap.size 0 :=
    ⟨v8.below b9, T8.trans (Turn.of_below b9 _), (blk_below b9 r8 (blk_lt r8)).trans (by rfl), (blk_below b9 s8 (blk_lt s8)).trans (by rw [noughts_zero]), blk_below b9 q8 l8,
      by rw [show y.set 0 (gN (y.n 0) 0) = y by unfold gN Val.set; congr 1; funext j; split <;> simp_all]; exact blk_alloc_at _ _ _ rfl⟩
  have nn : X ≠ X + 1 ∧ X ≠ P ∧ X ≠ w8.heap.size ∧ X + 1 ≠ P ∧ X + 1 ≠ w8.heap.size ∧ P ≠ w8.heap.size ∧ w.heap.size ≤ X ∧ w.heap.size ≤ w8.heap.size := by omega
  clear v8 T8 r8 s8 q8 b9 lX lM
  go_upto_region 8 with fail
  generalize w8.alloc (Obj.cells y.cells 60) = W9 at *
  have lt9 : R.q < w.heap.size ∧ R.d < w.heap.size ∧ R.s < w.heap.size ∧ R.r < w.heap.size ∧ R.m < w.heap.size := lt
  generalize w8.heap.size = Y at *
  clear lt5 lY l8 hs
  go_upto_block 0 with fail
  go_cut [2, 11] from 38 to 76 (fun nv iv wx => ∃ (k : Nat) (v : Int), k ≤ N ∧ nv = .int .i64 ((N - k : Nat) : Int) ∧ iv = .int .i64 v ∧ (k < N → ∀ b, b < 64 → usedI (gN (y.n 0) k) b = false) ∧ F 0 = (k : Int) + F k ∧ RGL w wx R ((saw2 st p).saw 2 0) x m y X (X + 1) P Y k)
  case first =>
    --(a
    go_wp2_with fail
    go_loopw [2, 11] (fun nv iv wr => ∃ (k i : Nat), k ≤ N ∧ i ≤ 64 ∧ nv = .int .i64 ((N - k : Nat) : Int) ∧ iv = .int .i64 (i : Int) ∧ (k < N → ∀ b, b < i → usedI (gN (y.n 0) k) b = false) ∧ F 0 = (k : Int) + F k ∧ RGL w wr R ((saw2 st p).saw 2 0) x m y X (X + 1) P Y k) (fun _ iv _ => 64 - (intOf iv).toNat)
    case atStart => exact ⟨0, 0, by omega, by omega, by simp, rfl, fun _ b hb => absurd hb (by omega), by simp, I0⟩
    case round =>
      clear I0
      obtain ⟨k, i, hk, hi, rfl, rfl, hlo, hon, G⟩ := hrel
      obtain ⟨d, hd⟩ : ∃ d : Nat, d = N - k := ⟨_, rfl⟩
      rw [← hd]
      have i0 : (0 : Int) ≤ (i : Int) := by omega
      have d0 : (0 : Int) ≤ (d : Int) := by omega
      have d1 : (d : Int) ≤ 1000 := by omega
      have HON := Lib.hid hon
      have HD := Lib.hid hd
      clear hon hd
      by_cases hi64 : i < 64
      · have l1 : (i : Int) < 64 := by omega
        by_cases hkN : k < N
        · have l2 : (0 : Int) < (d : Int) := by rw [HD.out]; omega
          have c0 := cell_of_row _ _ 0 _ _ _ G.bb
          rw [cells_0, set_n_same] at c0
          cases hu : usedI (gN (y.n 0) k) i with
          | false =>
            have hu2 := hu
            unfold usedI at hu2
            have HLO : ∀ b, b < i + 1 → usedI (gN (y.n 0) k) b = false := fun b hb => by
              by_cases e : b = i
              · subst e; exact hu
              · exact hlo hkN b (by omega)
            have HLO := Lib.hid HLO
            have HG := Lib.hid G
            clear hlo hu G
            generalize hA : gN (y.n 0) k = A at *
            have HA := Lib.hid hA
            clear hA
            go_wp2_with fail
            exact ⟨⟨k, i + 1, hk, by omega, by rw [HD.out], by go_num, fun _ => by rw [HA.out]; exact HLO.out, HON.out, HG.out⟩, by simp [intOf]; omega⟩
          | true =>
            have hu2 := hu
            unfold usedI at hu2
            obtain ⟨e1, e3⟩ := gN_next hi64 (hlo hkN) hu
            have e4 := hFs k i hi64 (hlo hkN) hu
            have e2 : gS (y.n 0) x.s (k + 1) = gS (y.n 0) x.s k ++ gC (y.n 0) k := rfl
            have e5 := noughts_add (16 * k) 16
            have e6 : m.s ++ noughts (16 * (k + 1)) = m.s ++ noughts (16 * k) ++ noughts 16 := by
              rw [show 16 * (k + 1) = 16 * k + 16 by omega, ← e5]
              apply ByteArray.ext; simp [ByteArray.data_append]
            have hsz := gS_size (y.n 0) x.s k
            have HLO : ∀ b, b < i + 1 → usedI (gN (y.n 0) (k + 1)) b = false := fun b hb => by
              rw [e1, used_unmark _ _ _ (by omega)]
              by_cases e : b = i
              · subst e; simp
              · rw [hlo hkN b (by omega)]; rfl
            have HLO := Lib.hid HLO
            have E1 := Lib.hid e1
            have E2 := Lib.hid e2
            have E3 := Lib.hid e3
            have E4 := Lib.hid e4
            have E6 := Lib.hid e6
            have HSZ := Lib.hid hsz
            have hv := G.v
            have ht := G.t
            have bx := G.bx
            have bm := G.bm
            have bp := G.bp
            have bb := G.bb
            clear hlo hu G e1 e2 e3 e4 e5 e6 hsz
            generalize hA : gN (y.n 0) k = A at *
            have f0 := frozen_blk bb 0
            clear hA
            go_upto_region 12 with fail
            go_region
            rw [unmarkN_def, ← E1.out]
            have tl1 : Turn (fun j => w.heap.size ≤ j) wr (wr.setCell ⟨Y, 0, none⟩ (.int .i64 (gN (y.n 0) (k + 1)))).drew := ((Turn.refl _ _).setCell (p := ⟨Y, 0, none⟩) (Or.inl nn.2.2.2.2.2.2.2) _).drew
            have bb1 := blk_setCell_same bb 0 (.int .i64 (gN (y.n 0) (k + 1)))
            rw [set_set] at bb1
            have bb1 := (blk_drew _ _).trans bb1
            have bx1 := (blk_drew _ _).trans ((blk_setCell_other wr ⟨Y, 0, none⟩ (.int .i64 (gN (y.n 0) (k + 1))) X nn.2.2.1).trans bx)
            have bm1 := (blk_drew _ _).trans ((blk_setCell_other wr ⟨Y, 0, none⟩ (.int .i64 (gN (y.n 0) (k + 1))) (X + 1) nn.2.2.2.2.1).trans bm)
            have bp1 := (blk_drew _ _).trans ((blk_setCell_other wr ⟨Y, 0, none⟩ (.int .i64 (gN (y.n 0) (k + 1))) P nn.2.2.2.2.2.1).trans bp)
            have v1 := hv.off tl1 lt9
            have t1 := ht.offS tl1 (Nat.le_refl _)
            clear tl1 bb bx bm bp hv ht c0 f0 hu2
            generalize (wr.setCell ⟨Y, 0, none⟩ (.int .i64 (gN (y.n 0) (k + 1)))).drew = W1 at *
            have c16 := cell_of_row _ _ 16 _ _ _ bx1
            rw [cells_16, show (x.text (gS (y.n 0) x.s k)).s = gS (y.n 0) x.s k from rfl] at c16
            have f16 := frozen_blk bx1 16
            have lX1 := blk_lt bx1
            have hs1 : ((gS (y.n 0) x.s k).size : Int) ≤ 2000 := by rw [HSZ.out]; omega
            have hs0 : (0 : Int) ≤ ((gS (y.n 0) x.s k).size : Int) := Int.natCast_nonneg _
            have bx2 := blk_setCell_same bx1 16 (.string (gS (y.n 0) x.s (k + 1)))
            rw [text_set] at bx2
            generalize hs' : gS (y.n 0) x.s (k + 1) = s' at *
            generalize hsk : gS (y.n 0) x.s k = s at *
            generalize gC (y.n 0) k = c at *
            have CV : ∀ (W : World) (n : Nat), n = W.heap.size → (convert 73 9 (.slice (some ⟨n, 0, none⟩) 1 1)).run Tryz.prog (W.alloc (.cells #[.int .u8 (i : Int)] 5)) = .ok (.string c) (W.alloc (.cells #[.int .u8 (i : Int)] 5)) := by
              rintro W n rfl
              rw [E3.out]
              exact run_byte (i : Int) W
            have cz0 : (0 : Int) ≤ (c.size : Int) := Int.natCast_nonneg _
            have cz1 : (c.size : Int) ≤ 1 := by rw [E3.out]; exact Int.le_refl _
            have HX := Lib.hid (hs'.trans rfl)
            clear hs' hsk
            go_upto_region 14 with fail
            rw [← E2.out]
            have tl2 : Turn (fun j => w.heap.size ≤ j) W1 ((W1.setCell ⟨X, 16, none⟩ (.string s')).alloc (Obj.cells #[.int .u8 (i : Int)] 5)) := ((Turn.refl _ _).setCell (p := ⟨X, 16, none⟩) (Or.inl nn.2.2.2.2.2.2.1) _).alloc _
            have hsz2 : (W1.setCell ⟨X, 16, none⟩ (.string s')).heap.size = W1.heap.size := by simp
            have bx3 := (blk_alloc_past (W1.setCell ⟨X, 16, none⟩ (.string s')) (Obj.cells #[.int .u8 (i : Int)] 5) X (by omega)).trans bx2
            have bm3 := (blk_alloc_past (W1.setCell ⟨X, 16, none⟩ (.string s')) (Obj.cells #[.int .u8 (i : Int)] 5) (X + 1) (by have := blk_lt bm1; omega)).trans ((blk_setCell_other W1 ⟨X, 16, none⟩ (.string s') (X + 1) (by show X + 1 ≠ X; omega)).trans bm1)
            have bp3 := (blk_alloc_past (W1.setCell ⟨X, 16, none⟩ (.string s')) (Obj.cells #[.int .u8 (i : Int)] 5) P (by have := blk_lt bp1; omega)).trans ((blk_setCell_other W1 ⟨X, 16, none⟩ (.string s') P (Ne.symm nn.2.1)).trans bp1)
            have bb3 := (blk_alloc_past (W1.setCell ⟨X, 16, none⟩ (.string s')) (Obj.cells #[.int .u8 (i : Int)] 5) Y (by have := blk_lt bb1; omega)).trans ((blk_setCell_other W1 ⟨X, 16, none⟩ (.string s') Y (Ne.symm nn.2.2.1)).trans bb1)
            have v3 := v1.off tl2 lt9
            have t3 := t1.offS tl2 (Nat.le_refl _)
            clear tl2 hsz2 bx2 bx1 bm1 bp1 bb1 v1 t1 c16 f16 lX1 CV cz0 cz1 hs0 hs1
            generalize (W1.setCell ⟨X, 16, none⟩ (.string s')).alloc (Obj.cells #[.int .u8 (i : Int)] 5) = W3 at *
            have hmk : ∀ w : World, (Instr.makeSlice 73 (.int .i64 16) (.int .i64 16)).run Tryz.prog w = .ok (.slice (some ⟨w.heap.size, 0, none⟩) 16 16) (w.alloc (.cells (madeCells #[.int .u8 0] 16) 5)) := run_make_row' (P := Tryz.prog) 73 5 (.int .u8 0) 1 Tryz.underlying73 bz_info rfl .i64 .i64 16 (by decide) (by decide)
            have hz1 := run_z16
            have hz2 := run_z16d
            have zz1 : ((noughts 16).size : Int) = 16 := by rw [noughts_size]; rfl
            have sm1 : ((m.s ++ noughts (16 * k)).size : Int) ≤ 20000 := by rw [ByteArray.size_append, noughts_size]; omega
            have sm0 : (0 : Int) ≤ ((m.s ++ noughts (16 * k)).size : Int) := Int.natCast_nonneg _
            generalize hZ : noughts 16 = Z at *
            generalize hSM : m.s ++ noughts (16 * k) = sm at *
            have zz0 : (0 : Int) ≤ (Z.size : Int) := by omega
            have zz2 : (Z.size : Int) ≤ 16 := by omega
            have c16 := cell_of_row _ _ 16 _ _ _ bm3
            rw [cells_16, show (m.text sm).s = sm from rfl] at c16
            have f16 := frozen_blk bm3 16
            have lM3 := blk_lt bm3
            have bm4 := blk_setCell_same bm3 16 (.string (sm ++ Z))
            rw [text_set] at bm4
            clear hZ hSM zz1
            go_region
            have tl4 : Turn (fun j => w.heap.size ≤ j) W3 ((W3.setCell ⟨X + 1, 16, none⟩ (.string (sm ++ Z))).alloc (Obj.cells (madeCells #[.int .u8 0] 16) 5)).drew := (((Turn.refl _ _).setCell (p := ⟨X + 1, 16, none⟩) (Or.inl (show w.heap.size ≤ X + 1 by omega)) _).alloc _).drew
            have hsz4 : (W3.setCell ⟨X + 1, 16, none⟩ (.string (sm ++ Z))).heap.size = W3.heap.size := by simp
            have past : ∀ b, b < W3.heap.size → blk ((W3.setCell ⟨X + 1, 16, none⟩ (.string (sm ++ Z))).alloc (Obj.cells (madeCells #[.int .u8 0] 16) 5)).drew b = blk (W3.setCell ⟨X + 1, 16, none⟩ (.string (sm ++ Z))) b := fun b hb => (blk_drew _ _).trans (blk_alloc_past _ _ _ (by omega))
            have bm5 : blk ((W3.setCell ⟨X + 1, 16, none⟩ (.string (sm ++ Z))).alloc (Obj.cells (madeCells #[.int .u8 0] 16) 5)).drew (X + 1) = some (.cells (m.text (m.s ++ noughts (16 * (k + 1)))).cells 60 (0, 0)) := by rw [E6.out]; exact (past _ lM3).trans bm4
            have bx5 := (past _ (blk_lt bx3)).trans ((blk_setCell_other W3 ⟨X + 1, 16, none⟩ (.string (sm ++ Z)) X (by show X ≠ X + 1; omega)).trans bx3)
            have bp5 := (past _ (blk_lt bp3)).trans ((blk_setCell_other W3 ⟨X + 1, 16, none⟩ (.string (sm ++ Z)) P (Ne.symm nn.2.2.2.1)).trans bp3)
            have bb5 := (past _ (blk_lt bb3)).trans ((blk_setCell_other W3 ⟨X + 1, 16, none⟩ (.string (sm ++ Z)) Y (Ne.symm nn.2.2.2.2.1)).trans bb3)
            have v5 := v3.off tl4 lt9
            have t5 := t3.offS tl4 (Nat.le_refl _)
            rw [← HX.out] at bx5
            have G5 := Lib.hid (RGL.mk v5 t5 bx5 bm5 bp5 bb5)
            clear tl4 hsz4 past bm5 bx5 bp5 bb5 v5 t5 bm4 bx3 bm3 bp3 bb3 v3 t3 c16 f16 lM3 hmk hz1 hz2 sm0 sm1 zz0 zz2
            generalize ((W3.setCell ⟨X + 1, 16, none⟩ (.string (sm ++ Z))).alloc (Obj.cells (madeCells #[.int .u8 0] 16) 5)).drew = W5 at *
            have ed : (d : Int) - 1 = ((N - (k + 1) : Nat) : Int) := by rw [HD.out]; omega
            have HE := Lib.hid ed
            clear ed
            go_wp2_with fail
            exact ⟨⟨k + 1, i + 1, by omega, by omega, by rw [HE.out], by go_num, fun _ => HLO.out, by rw [E4.out, HON.out]; omega, G5.out⟩, by simp [intOf]; omega⟩
        · have HKN := Lib.hid hkN
          have l2 : ¬ (0 : Int) < (d : Int) := by rw [HD.out]; omega
          have hkd : k = N := by omega
          have HKD := Lib.hid hkd
          clear hkd hkN
          go_wp2_with fail
          go_meet
          case rel => exact ⟨k, (i : Int), hk, by rw [HD.out], rfl, fun q => absurd q HKN.out, HON.out, G⟩
      · have hi' : i = 64 := by omega
        have l1 : ¬ (i : Int) < 64 := by omega
        have HLO := Lib.hid (show k < N → ∀ b, b < 64 → usedI (gN (y.n 0) k) b = false from fun q b hb => hlo q b (by omega))
        clear hi' hlo
        go_wp2_with fail
        go_meet
        case rel => exact ⟨k, (i : Int), hk, by rw [HD.out], rfl, HLO.out, HON.out, G⟩
    --)a
  case rest =>
    clear I0
    obtain ⟨k, v, hk, rfl, rfl, hno, hon, G⟩ := hcut
    by_cases hkN : k = N
    · subst hkN
      have hF : (k : Int) ≤ F 0 := by have := hFp k; omega
      obtain ⟨rfl, hen⟩ := H1.out hF
      have HEN := Lib.hid hen
      have hv := G.v
      have ht := G.t
      have bx := G.bx
      have bm := G.bm
      have bp := G.bp
      have bb := G.bb
      clear hno hon hF hen hFp hFs hFn G
      rw [Nat.sub_self]
      generalize gN (y.n 0) k = A at *
      generalize gS (y.n 0) x.s k = s at *
      generalize m.s ++ noughts (16 * k) = sm at *
      have k0 := cell_of_row _ _ 0 _ _ _ bp
      have k1 := cell_of_row _ _ 1 _ _ _ bp
      have T0 := rmaps ht
      go_wp2_with fail
      refine (rvput_at (R := R) (st := (saw2 st p).saw 2 0) (k := 2) (n := 0) (x := y.set 0 A) (by decide) hv).mono ?_; rintro e w2 ⟨⟨v2, rfl⟩, hv2, t2⟩
      have off : ∀ {W W' : World} {st' : VSt} {b : Nat} {c : Array Value} {ty : TypeId} {fz : Nat × Nat}, RViewAt W R st' → Turn (fun k => k = R.r ∨ k = R.m) W W' → blk W b = some (.cells c ty fz) → blk W' b = some (.cells c ty fz) := fun hv' t' hb => by
        refine blk_of_turn t' hb (fun e => ?_)
        obtain ⟨_, _, q1, _⟩ := hv'.cr
        obtain ⟨_, _, q2, _⟩ := hv'.cm
        have n1 := cells_ne_map hb q1
        have n2 := cells_ne_map hb q2
        omega
      have bx2 := off hv t2 bx
      have bm2 := off hv t2 bm
      have T2 := T0.trans t2
      clear hv t2 bx bm bp bb k0 k1 T0 ht
      go_upto_region 19 with fail
      have b0 : Below w2.heap.size w2 w2.drew := below_drewN (Below.refl _ w2) 1
      have hv3 := hv2.below b0
      have T3 := T2.trans (Turn.of_below b0 _)
      have bx3 := blk_below b0 bx2 (blk_lt bx2)
      have bm3 := blk_below b0 bm2 (blk_lt bm2)
      clear hv2 T2 bx2 bm2 b0
      refine wp_region_held_drew (S := fun W => blk W X = some (.cells (x.text s).cells 60 (0, 0))) (by kernel_rfl) bx3 (fun hHeld => ?_)
      clear bx3
      generalize w2.drew = W3 at *
      refine reg_take (i := 0) (v := ?_) rfl rfl (by kernel_rfl) (by kernel_rfl) (by kernel_rfl) (fun _ _ _ h => h) (by assumption) (by rfl) ?_ ?_
      rotate_left 1
      · (intro w hSw; (try dsimp only at hSw); go_simp; try with_reducible rfl)
      try simp only [List.setIfInBounds_toArray, List.set_cons_zero, List.set_cons_succ]
      refine reg_take (i := 1) (v := ?_) rfl rfl (by kernel_rfl) (by kernel_rfl) (by kernel_rfl) (fun _ _ _ h => h) (by assumption) (by rfl) ?_ ?_
      rotate_left 1
      · (intro w hSw; (try dsimp only at hSw); go_simp; try with_reducible rfl)
      try simp only [List.setIfInBounds_toArray, List.set_cons_zero, List.set_cons_succ]
      refine reg_take (i := 3) (v := (.agg (x.text s).cells)) rfl rfl (by kernel_rfl) (by kernel_rfl) (by kernel_rfl) (fun _ _ _ h => h) (by assumption) (by rfl) (fun W hW => loadV_blk hW) ?_
      try simp only [List.setIfInBounds_toArray, List.set_cons_zero, List.set_cons_succ]
      refine reg_step (i := 2) (by kernel_rfl) rfl (by rfl) (fun KC hKC => ?_)
      go_simp
      refine (rpkey_any p _).mono ?_; rintro e w4 ⟨rfl, t4⟩
      have r4 := blk_below t4 hHeld (blk_lt hHeld)
      have bm4 := blk_below t4 bm3 (blk_lt bm3)
      have hv4 := hv3.below t4
      have T4 := T3.trans (Turn.of_below t4 _)
      clear hHeld hv3 T3 t4 bm3
      refine hKC.out _ _ ?_ (fun hHeld => ?_)
      · exact r4
      clear hKC KC
      refine reg_step (i := 4) (by kernel_rfl) rfl (by rfl) (fun KC hKC => ?_)
      go_simp
      refine (rvput_at (R := R) (st := ((saw2 st p).saw 2 0).put 2 0 (y.set 0 A)) (k := 4) (n := p) (x := x.text s) (by decide) hv4).mono ?_; rintro e w5 ⟨⟨v5, rfl⟩, hv5, t5⟩
      have T5 := T4.trans t5
      have r5 := off hv4 t5 r4
      have bm5 := off hv4 t5 bm4
      clear hHeld hv4 T4 t5 bm4 r4
      refine hKC.out _ _ ?_ (fun hHeld => ?_)
      · exact r5
      clear hKC KC
      refine wpAnyH_done (by kernel_rfl) ?_ _
      clear hHeld r5
      go_upto_region 20 with fail
      have b0 : Below w5.heap.size w5 w5.drew := below_drewN (Below.refl _ w5) 1
      have hv6 := hv5.below b0
      have T6 := T5.trans (Turn.of_below b0 _)
      have bm6 := blk_below b0 bm5 (blk_lt bm5)
      clear hv5 T5 bm5 b0
      refine wp_region_held_drew (S := fun W => blk W (X + 1) = some (.cells (m.text sm).cells 60 (0, 0))) (by kernel_rfl) bm6 (fun hHeld => ?_)
      clear bm6
      generalize w5.drew = W6 at *
      refine reg_take (i := 0) (v := ?_) rfl rfl (by kernel_rfl) (by kernel_rfl) (by kernel_rfl) (fun _ _ _ h => h) (by assumption) (by rfl) ?_ ?_
      rotate_left 1
      · (intro w hSw; (try dsimp only at hSw); go_simp; try with_reducible rfl)
      try simp only [List.setIfInBounds_toArray, List.set_cons_zero, List.set_cons_succ]
      refine reg_take (i := 1) (v := ?_) rfl rfl (by kernel_rfl) (by kernel_rfl) (by kernel_rfl) (fun _ _ _ h => h) (by assumption) (by rfl) ?_ ?_
      rotate_left 1
      · (intro w hSw; (try dsimp only at hSw); go_simp; try with_reducible rfl)
      try simp only [List.setIfInBounds_toArray, List.set_cons_zero, List.set_cons_succ]
      refine reg_take (i := 3) (v := (.agg (m.text sm).cells)) rfl rfl (by kernel_rfl) (by kernel_rfl) (by kernel_rfl) (fun _ _ _ h => h) (by assumption) (by rfl) (fun W hW => loadV_blk hW) ?_
      try simp only [List.setIfInBounds_toArray, List.set_cons_zero, List.set_cons_succ]
      refine reg_step (i := 2) (by kernel_rfl) rfl (by rfl) (fun KC hKC => ?_)
      go_simp
      refine (rmkey_any p _).mono ?_; rintro e w7 ⟨rfl, t7⟩
      have r7 := blk_below t7 hHeld (blk_lt hHeld)
      have hv7 := hv6.below t7
      have T7 := T6.trans (Turn.of_below t7 _)
      clear hHeld hv6 T6 t7
      refine hKC.out _ _ ?_ (fun hHeld => ?_)
      · exact r7
      clear hKC KC
      refine reg_step (i := 4) (by kernel_rfl) rfl (by rfl) (fun KC hKC => ?_)
      go_simp
      refine (rvput_at (R := R) (st := (((saw2 st p).saw 2 0).put 2 0 (y.set 0 A)).put 4 p (x.text s)) (k := 12) (n := p) (x := m.text sm) (by decide) hv7).mono ?_; rintro e w8 ⟨⟨v8, rfl⟩, hv8, t8⟩
      have T8 := T7.trans t8
      have r8 := off hv7 t8 r7
      rw [put_comm _ 2 0 4 p _ _ (by omega), put_comm _ 2 0 12 p _ _ (by omega)] at hv8
      clear hHeld hv7 T7 t8 r7
      refine hKC.out _ _ ?_ (fun hHeld => ?_)
      · exact r8
      clear hKC KC
      refine wpAnyH_done (by kernel_rfl) ?_ _
      clear hHeld r8
      go_wp2_with fail
      go_ret
      exact ⟨rfl, by rw [HEN.out]; exact hv8, T8⟩
    · have hF : ¬ (k : Int) ≤ F 0 - 0 ∨ True := Or.inr trivial
      have hz0 := hFn k (hno (by omega))
      have hlt : ¬ (N : Int) ≤ F 0 := by rw [hon, hz0]; omega
      obtain ⟨rfl, rfl⟩ := H2.out (by omega)
      have hd : (0 : Int) < ((N - k : Nat) : Int) := by omega
      have hv := G.v
      have ht := G.t
      clear hno hon hF hz0 hlt hFp hFs hFn G
      generalize N - k = d at *
      go_wp2_with fail
      go_ret
      exact ⟨rfl, hv, rmaps ht⟩
end Go.Proofs.YtfcgkjbifnhjjaaGreatDoor.St

namespace Go.Proofs.YtfcgkjbifnhjjaaGreatDoor.St
open Go.RowKit
set_option linter.unusedVariables false
theorem turn_from {a b : World} {B : Nat} (k : Below B a b) : Turn (fun i => B ≤ i) a b :=
  ⟨k.os, k.tape, k.output, k.size, fun i hi hS => k.block i (by omega)⟩
/-- What the loop over the pages that go holds. -/
structure RSL (w W : World) (R : RLay) (st : VSt) (x m y : Val) (X M P Y : Nat) (ps : List Int) (j : Nat) : Prop where
  v : RViewAt W R st
  t : Turn (· = R.r) w W
  bx : blk W X = some (.cells x.cells 60 (0, 0))
  bm : blk W M = some (.cells m.cells 60 (0, 0))
  bp : blk W P = some (.cells #[.int .i64 2, .int .i64 0] 57 (0, 0))
  bb : blk W Y = some (.cells (y.set 1 (shY (y.n 1) (ps.take j))).cells 60 (0, 0))
theorem tailS_at (s : ByteArray) (n : Nat) (hn : n ≤ s.size) (j : Nat) (hj : j < n) : ∃ h : j < (pgL (tailS s (n : Int)).data.toList).length, ∃ h2 : s.size - n + j < s.size, (pgL (tailS s (n : Int)).data.toList)[j] = ((s[s.size - n + j]'h2).toNat : Int) % 64 := by
  have e : (tailS s (n : Int)).data.toList = s.data.toList.drop (s.size - n) := by
    unfold tailS
    rw [show ((s.size : Int) - (n : Int)).toNat = s.size - n by omega, ByteArray.data_extract, Array.toList_extract, List.extract_eq_take_drop, List.take_of_length_le (by simp)]
  have hl := size_list s
  have hlen : (pgL (tailS s (n : Int)).data.toList).length = n := by unfold pgL; rw [List.length_map, e, List.length_drop, hl]; omega
  refine ⟨by omega, by omega, ?_⟩
  unfold pgL
  rw [List.getElem_map]
  obtain ⟨h3, h4⟩ := at_list s (s.size - n + j) (by omega)
  have : (tailS s (n : Int)).data.toList[j]'(by rw [e, List.length_drop, hl]; omega) = s[s.size - n + j] := by
    rw [← h4]
    simp only [e]
    rw [List.getElem_drop]
  rw [this]
theorem shL_len (st : VSt) (p : Int) (n : Nat) (hn : n ≤ (st.get 4 p).s.size) : (shL st p (n : Int)).length = n := by
  unfold shL pgL tailS
  rw [List.length_map, ByteArray.data_extract, Array.toList_extract, List.extract_eq_take_drop, List.length_take, List.length_drop, size_list]
  omega
attribute [local go_sem] blk_alloc_at blk_alloc_past blk_drew blk_drewN blk_setB_same blk_setB_other blk_setRow_other setRow_alloc_at setRow_alloc_past setRow_drewN setRow_drew setB_size setB_cell setB_frozen setB_alloc_past setB_drewN setB_drew run_loadV loadOr_cells run_storeV storeOr_cells cells_size ones_cells cells_0 cells_1 cells_2 cells_16 cells_g0 cells_g1 cells_g2 cells_g16 cells_set0 cells_set1 cells_set2 cells_text run_field0 run_field1 run_index0
attribute [local go_sem ↓] execOp_loadV execOp_storeV
attribute [local irreducible] Int.lt Int.le
set_option maxRecDepth 100000 in
set_option maxHeartbeats 4000000 in
theorem rshrink_any (R : RLay) (st : VSt) (p : Int) (N : Nat) (h : (qState st p == 0) = false) (x m y : Val) (hx : st.get 4 p = x) (hm : st.get 12 p = m) (hy : st.get 2 0 = y) (hs : (x.s.size : Int) ≤ 1000) (hms : (m.s.size : Int) ≤ 1000) (hN : (N : Int) ≤ 9223372036854775807)
    (w : World) (hV : RViewAt w R st) :
    Calls Tryz.prog 9 #[.pointer (some ⟨R.q, 0, none⟩), .int .i64 p, .int .i64 (N : Int)] w fun e w' => ∃ v, e = .returned (.tuple #[v, .bool (shOk st p N)]) ∧ ShRes (shOk st p N) w.heap.size w' v (shL st p N) ∧ RViewAt w' R (shEnd st p N) ∧ Turn (fun k => k = R.r ∨ k = R.m) w w' := by
  have lt := hV.lts
  have hz := zero_val
  obtain ⟨i0, hi, hqi⟩ := Option.map_eq_some_iff.1 info_int
  simp only [Prod.mk.injEq] at hqi
  obtain ⟨hz0, hz1, hz2⟩ := hqi
  obtain ⟨q, hq⟩ : ∃ q, q = qState st p := ⟨_, rfl⟩
  rw [← hq] at h
  obtain ⟨ok, hok⟩ : ∃ ok, ok = shOk st p (N : Int) := ⟨_, rfl⟩
  rw [← hok]
  obtain ⟨en, hen⟩ : ∃ en, en = shEnd st p (N : Int) := ⟨_, rfl⟩
  rw [← hen]
  obtain ⟨ps, hps⟩ : ∃ ps, ps = shL st p (N : Int) := ⟨_, rfl⟩
  rw [← hps]
  have hlen : N ≤ x.s.size → ps.length = N := fun q => by rw [hps]; exact shL_len st p N (by rw [hx]; exact q)
  have hat : N ≤ x.s.size → ∀ j, j < N → ∃ h : j < ps.length, ∃ h2 : x.s.size - N + j < x.s.size, ps[j] = ((x.s[x.s.size - N + j]'h2).toNat : Int) % 64 := fun q j hj => by
    rw [hps]
    have := tailS_at x.s N q j hj
    unfold shL
    rw [hx]
    exact this
  unfold shOk at hok
  unfold shEnd at hen
  rw [← hps] at hen
  unfold shX shM at hen
  rw [hx] at hok
  rw [hx, hy, hm] at hen
  have Hq := Lib.hid hq
  have Hok := Lib.hid hok
  have Hen := Lib.hid hen
  have Hlen := Lib.hid hlen
  have Hat := Lib.hid hat
  clear hok hen hq hps hlen hat
  have hn : decide ((N : Int) < 0) = false := decide_eq_false (by omega)
  have n0 : (0 : Int) ≤ (N : Int) := by omega
  go_enter Tryz.func9, Tryz.ntmps9
  go_wp2_with fail
  refine (rstate_any R st p w hV).mono ?_; rw [← Hq.out]; rintro e w1 ⟨rfl, hv1, t1⟩
  clear hV Hq
  go_wp2_with fail
  refine (rpkey_any p _).mono ?_; rintro e w2 ⟨rfl, t2⟩
  have v2 := hv1.below t2
  have T2 := t1.trans (Turn.of_below t2 _)
  clear hv1 t1 t2
  go_wp2_with fail
  refine (rvget_any R _ 4 p (by decide) _ v2).mono ?_; rintro e w3 ⟨rfl, v3, t3⟩
  rw [get_qSaw, hx]
  have T3 := T2.trans t3
  clear v2 T2 t3
  go_wp2_with fail
  refine (rmkey_any p _).mono ?_; rintro e w4 ⟨rfl, t4⟩
  have v4 := v3.below t4
  have T4 := T3.trans (Turn.of_below t4 _)
  clear v3 T3 t4
  go_wp2_with fail
  refine (rvget_any R _ 12 p (by decide) _ v4).mono ?_; rintro e w5 ⟨rfl, v5, t5⟩
  rw [get_saw', get_qSaw, hm]
  have T5 := T4.trans t5
  rw [show ((qSaw st p).saw 4 p).saw 12 p = saw2 st p from rfl] at v5
  clear v4 T4 t5 hx hm
  have b6 : Below w5.heap.size w5 ((w5.alloc (Obj.cells x.cells 60)).alloc (Obj.cells m.cells 60)) := ((Below.refl _ _).alloc (Nat.le_refl _) _).alloc (by simp) _
  have r6 : blk ((w5.alloc (Obj.cells x.cells 60)).alloc (Obj.cells m.cells 60)) w5.heap.size = some (.cells x.cells 60 (0, 0)) := (blk_alloc_past _ _ _ (by simp)).trans (blk_alloc_at _ _ _ rfl)
  have s6 : blk ((w5.alloc (Obj.cells x.cells 60)).alloc (Obj.cells m.cells 60)) (w5.heap.size + 1) = some (.cells m.cells 60 (0, 0)) := blk_alloc_at _ _ _ (by simp)
  go_upto_region 4 with fail
  have v6 := v5.below b6
  have T6 := T5.trans (Turn.of_below b6 _)
  have zX := T5.size
  have lX := blk_lt r6
  have lM := blk_lt s6
  have lt5 := v5.lts
  clear v5 T5 b6
  generalize (w5.alloc (Obj.cells x.cells 60)).alloc (Obj.cells m.cells 60) = W6 at *
  generalize w5.heap.size = X at *
  have hy2 : (saw2 st p).get 2 0 = y := (get_saw2 _ _ _ _).trans hy
  have Hy2 := Lib.hid hy2
  clear hy2 hy
  have c16 : W6.cell? ⟨X, 16, none⟩ = some (.string x.s) := by rw [cell_of_row _ _ 16 _ _ _ r6]; exact cells_16 x
  by_cases hc : (x.s.size : Int) < (N : Int)
  · have H1 : ok = false ∧ en = saw2 st p := by
      refine ⟨by rw [Hok.out, decide_eq_true (by omega)]; rfl, ?_⟩
      rw [Hen.out, if_pos (by omega)]
    obtain ⟨rfl, rfl⟩ := H1
    have hcd : decide ((x.s.size : Int) < (N : Int)) = true := decide_eq_true hc
    clear Hok Hen
    go_wp2_with fail
    go_ret2
    exact ⟨_, rfl, ⟨fun q => (by cases q), fun _ => rfl⟩, v6, rmaps T6⟩
  have hcd : decide ((x.s.size : Int) < (N : Int)) = false := decide_eq_false hc
  have hNx : N ≤ x.s.size := by omega
  obtain ⟨rfl, hen⟩ : ok = true ∧ en = ((((saw2 st p).saw 2 0).put 4 p (x.text (headS x.s ((x.s.size : Int) - (N : Int))))).put 12 p (m.text (headS m.s (min (m.s.size : Int) (((x.s.size : Int) - (N : Int)) * 16))))).put 2 0 (y.set 1 (shY (y.n 1) ps)) := by
    refine ⟨by rw [Hok.out, decide_eq_false (by omega)]; rfl, ?_⟩
    rw [Hen.out, if_neg (by omega)]
  have HEN := Lib.hid hen
  have hlen := Hlen.out hNx
  have hat := Hat.out hNx
  clear Hok Hen hen Hlen Hat
  have b7 : Below W6.heap.size W6 (W6.alloc (Obj.cells #[.int .i64 2, .int .i64 0] 57)) := (Below.refl _ _).alloc (Nat.le_refl _) _
  have q7 : blk (W6.alloc (Obj.cells #[.int .i64 2, .int .i64 0] 57)) W6.heap.size = some (.cells #[.int .i64 2, .int .i64 0] 57 (0, 0)) := blk_alloc_at _ _ _ rfl
  go_upto_region 7 with fail
  have v7 := v6.below b7
  have T7 := T6.trans (Turn.of_below b7 _)
  have r7 := blk_below b7 r6 lX
  have s7 := blk_below b7 s6 lM
  have lP := blk_lt q7
  clear v6 T6 b7 r6 s6 c16
  generalize W6.alloc (Obj.cells #[.int .i64 2, .int .i64 0] 57) = W7 at *
  generalize W6.heap.size = P at *
  have k0 := cell_of_row _ _ 0 _ _ _ q7
  have k1 := cell_of_row _ _ 1 _ _ _ q7
  go_wp2_with fail
  refine (rvget_any R _ 2 0 (by decide) _ v7).mono ?_; rintro e w8 ⟨rfl, v8, t8⟩
  rw [Hy2.out]
  have T8 := T7.trans t8
  have r8 := blk_of_turn t8 r7 (show ¬ X = R.r by omega)
  have s8 := blk_of_turn t8 s7 (show ¬ X + 1 = R.r by omega)
  have q8 := blk_of_turn t8 q7 (show ¬ P = R.r by omega)
  have lY := t8.size
  have l8 : P < w8.heap.size := blk_lt q8
  clear v7 T7 r7 s7 q7 k0 k1 t8 lP
  have b9 : Below w8.heap.size w8 (w8.alloc (Obj.cells y.cells 60)) := (Below.refl _ _).alloc (Nat.le_refl _) _
  have I0 : RSL w (w8.alloc (Obj.cells y.cells 60)) R ((saw2 st p).saw 2 0) x m y X (X + 1) P w8.heap.size ps 0 :=
    ⟨v8.below b9, T8.trans (Turn.of_below b9 _), blk_below b9 r8 (blk_lt r8), blk_below b9 s8 (blk_lt s8), blk_below b9 q8 l8,
      by rw [show y.set 1 (shY (y.n 1) (ps.take 0)) = y by unfold shY Val.set; congr 1; funext j; simp; intro e; rw [e]]; exact blk_alloc_at _ _ _ rfl⟩
  have nn : X ≠ X + 1 ∧ X ≠ P ∧ X ≠ w8.heap.size ∧ X + 1 ≠ P ∧ X + 1 ≠ w8.heap.size ∧ P ≠ w8.heap.size ∧ w.heap.size ≤ X ∧ w.heap.size ≤ w8.heap.size := by omega
  have hB : w8.heap.size < (w8.alloc (Obj.cells y.cells 60)).heap.size ∧ P < (w8.alloc (Obj.cells y.cells 60)).heap.size ∧ X + 1 < (w8.alloc (Obj.cells y.cells 60)).heap.size := by
    have : (w8.alloc (Obj.cells y.cells 60)).heap.size = w8.heap.size + 1 := by simp
    have := blk_lt s8
    omega
  clear v8 T8 r8 s8 q8 b9 lX lM
  go_upto_region 8 with fail
  generalize w8.alloc (Obj.cells y.cells 60) = W9 at *
  generalize w8.heap.size = Y at *
  clear lt5 lY l8
  have c16 := cell_of_row _ _ 16 _ _ _ I0.bx
  rw [cells_16] at c16
  obtain ⟨lf, hlf⟩ : ∃ lf : Nat, lf = x.s.size - N := ⟨_, rfl⟩
  have hlf2 : (x.s.size : Int) - (N : Int) = (lf : Int) := by omega
  have lf0 : (0 : Int) ≤ (lf : Int) := by omega
  have lf1 : (lf : Int) ≤ 1000 := by omega
  have HLF := Lib.hid hlf
  clear hlf
  go_upto_region 10 with fail
  clear c16
  have hW9 := I0.t.size
  obtain ⟨B, hBB⟩ : ∃ B, B = W9.heap.size := ⟨_, rfl⟩
  rw [← hBB] at hB
  have hBw : w.heap.size ≤ B := by omega
  have HBB := Lib.hid hBB
  clear hBB
  go_wp2_with fail
  go_loopw [12, 14] (fun out i wr => ∃ j k : Nat, j ≤ N ∧ k = lf + j ∧ i = .int .i64 (k : Int) ∧ B ≤ wr.heap.size ∧ IL B wr out (ps.take j) ∧ RSL w wr R ((saw2 st p).saw 2 0) x m y X (X + 1) P Y ps j) (fun _ i _ => x.s.size - (intOf i).toNat)
  case atStart => exact ⟨0, lf, by omega, rfl, rfl, by rw [HBB.out]; exact Nat.le_refl _, IL.nil _ _, I0⟩
  case round =>
    clear I0
    obtain ⟨j, k, hj, hk, rfl, hBr, own, G⟩ := hrel
    have HK := Lib.hid hk
    have c16 := cell_of_row _ _ 16 _ _ _ G.bx
    rw [cells_16] at c16
    have k0 : (0 : Int) ≤ (k : Int) := by omega
    by_cases hlt : j < N
    · --(s_
      have l1 : (k : Int) < (x.s.size : Int) := by rw [hk, HLF.out]; omega
      have kx : k < x.s.size := by omega
      obtain ⟨h1, h2, h3⟩ := hat j hlt
      have h4 : ps[j] = ((x.s[k]'kx).toNat : Int) % 64 := by
        have hc : ∀ (a b : Nat) (ha : a < x.s.size) (hb : b < x.s.size), a = b → x.s[a] = x.s[b] := fun a b _ _ e => by subst e; rfl
        rw [h3, hc _ _ h2 kx (by rw [hk, HLF.out])]
      obtain ⟨g, hg⟩ : ∃ g : Nat, ((x.s[k]'kx).toNat : Int) % 64 = (g : Int) := ⟨((x.s[k]'kx).toNat) % 64, by omega⟩
      have g1 : (g : Int) < 64 := by omega
      have g0 : (0 : Int) ≤ (g : Int) := by omega
      have e1 : ps.take (j + 1) = ps.take j ++ [(g : Int)] := by rw [List.take_succ_eq_append_getElem h1, h4, hg]
      have e2 : shY (y.n 1) (ps.take (j + 1)) = markI (shY (y.n 1) (ps.take j)) g := by rw [e1, shY_snoc, Int.toNat_natCast]
      have nl : (ps.take j).length ≤ 1000 := by simp; omega
      have hu : ((x.s[k]'kx).toNat : Int) < 256 := by have := (x.s[k]'kx).toNat_lt; omega
      have hu0 : (0 : Int) ≤ ((x.s[k]'kx).toNat : Int) := Int.natCast_nonneg _
      have E1 := Lib.hid e1
      have E2 := Lib.hid e2
      have c1 := cell_of_row _ _ 1 _ _ _ G.bb
      rw [cells_1, set_n_same] at c1
      have f1 := frozen_blk G.bb 1
      have hv := G.v
      have ht := G.t
      have bx := G.bx
      have bm := G.bm
      have bp := G.bp
      have bb1 := blk_setCell_same G.bb 1 (.int .i64 (shY (y.n 1) (ps.take (j + 1))))
      rw [set1_set1] at bb1
      clear hk h1 h2 h3 h4 e1 e2 G hat
      generalize hA' : shY (y.n 1) (ps.take (j + 1)) = A' at *
      have E3 := Lib.hid hA'.symm
      clear hA'
      generalize shY (y.n 1) (ps.take j) = A at *
      go_upto_region 14 with fail
      rw [hg]
      clear hg hu hu0 c16
      go_region
      rw [markI_def, ← E2.out]
      have tl1 : Turn (fun j => w.heap.size ≤ j) wr (wr.setCell ⟨Y, 1, none⟩ (.int .i64 A')).drew := ((Turn.refl _ _).setCell (p := ⟨Y, 1, none⟩) (Or.inl nn.2.2.2.2.2.2.2) _).drew
      have bb2 := (blk_drew _ _).trans bb1
      have bx2 := (blk_drew _ _).trans ((blk_setCell_other wr ⟨Y, 1, none⟩ (.int .i64 A') X nn.2.2.1).trans bx)
      have bm2 := (blk_drew _ _).trans ((blk_setCell_other wr ⟨Y, 1, none⟩ (.int .i64 A') (X + 1) nn.2.2.2.2.1).trans bm)
      have bp2 := (blk_drew _ _).trans ((blk_setCell_other wr ⟨Y, 1, none⟩ (.int .i64 A') P nn.2.2.2.2.2.1).trans bp)
      have v2 := hv.off tl1 lt
      have t2 := ht.offS tl1 (Nat.le_refl _)
      have hBr2 : B ≤ (wr.setCell ⟨Y, 1, none⟩ (.int .i64 A')).drew.heap.size := Nat.le_trans hBr tl1.size
      have own2 : IL B (wr.setCell ⟨Y, 1, none⟩ (.int .i64 A')).drew _ (ps.take j) := own.keep (fun g hg _ => (blk_drew _ _).trans (blk_setCell_other wr ⟨Y, 1, none⟩ (.int .i64 A') g (by show g ≠ Y; omega)))
      clear tl1 bb1 bx bm bp hv ht c1 f1 own hBr
      generalize (wr.setCell ⟨Y, 1, none⟩ (.int .i64 A')).drew = W4 at *
      generalize ps.take j = done at *
      have O := own2
      unfold IL at O
      go_wp2_with (first
        | (at_builtin; refine wpList_append_own _ rfl _ _ 36 rfl B 3 i0 (.int .i64 0) 1 8 Tryz.underlying36 hi hz0 hz1 hz2 rfl (by decide) _ _ _ rfl (World.ownsRow.alloc O _) ⟨_, 0, none⟩ 1 1 [.int .i64 (g : Int)] rfl rfl ?c1 ?c2 ?c3 ?c4 ?c5 ?_)
        | fail)
      case c1 =>
        intro j u hj
        match j, hj with
        | 0, hj => simp at hj; subst hj; simp [Addr.add]
      case c2 => intro u hu; simp at hu; subst hu; rfl
      case c3 => unfold maxLen; omega
      case c4 => omega
      case c5 => simp; omega
      intro v' W6 hown' hgrow _
      have RR := il_push hBr2 own2 hown' hgrow
      rw [← E1.out] at RR
      have O6 := Lib.hid RR.1
      have lw : w.heap.size ≤ B := hBw
      have tl6 := (turn_from RR.2).mono (T := fun i => w.heap.size ≤ i) (fun i _ q => Nat.le_trans lw q)
      have v6 := v2.off tl6 lt
      have t6 := t2.offS tl6 (Nat.le_refl _)
      have bx6 := blk_of_turn (turn_from RR.2) bx2 (show ¬ B ≤ X by omega)
      have bm6 := blk_of_turn (turn_from RR.2) bm2 (show ¬ B ≤ X + 1 by omega)
      have bp6 := blk_of_turn (turn_from RR.2) bp2 (show ¬ B ≤ P by omega)
      have bb6 := blk_of_turn (turn_from RR.2) bb2 (show ¬ B ≤ Y by omega)
      have hB6 := Nat.le_trans hBr2 RR.2.size
      have G6 : RSL w W6 R ((saw2 st p).saw 2 0) x m y X (X + 1) P Y ps (j + 1) := ⟨v6, t6, bx6, bm6, bp6, by rw [← E3.out]; exact bb6⟩
      have G6 := Lib.hid G6
      clear hown' hgrow O own2 RR E1 E2 E3 bx2 bm2 bp2 bb2 v2 t2 tl6 v6 t6 bx6 bm6 bp6 bb6
      go_wp2_with fail
      exact ⟨⟨j + 1, k + 1, by omega, by rw [HK.out]; omega, by go_num, hB6, O6.out, G6.out⟩, by simp [intOf]; omega⟩
    · --(e_
      obtain rfl : j = N := by omega
      have hk2 : k = x.s.size := by rw [hk, HLF.out]; omega
      have l1 : ¬ (k : Int) < (x.s.size : Int) := by omega
      rw [List.take_of_length_le (by omega)] at own
      have hv := G.v
      have ht := G.t
      have bx := G.bx
      have bm := G.bm
      have bp := G.bp
      have bb := G.bb
      rw [List.take_of_length_le (by omega)] at bb
      have hlx : (lf : Int) ≤ (x.s.size : Int) := by omega
      have f16 := frozen_blk bx 16
      have m16 := cell_of_row _ _ 16 _ _ _ bm
      rw [cells_16] at m16
      have n16 := frozen_blk bm 16
      have mm0 : 0 ≤ min (m.s.size : Int) ((lf : Int) * 16) := by omega
      have mm1 : min (m.s.size : Int) ((lf : Int) * 16) ≤ (m.s.size : Int) := by omega
      rw [hlf2] at HEN
      have hh1 : headS x.s (lf : Int) = x.s.extract 0 (lf : Int).toNat := rfl
      have hh2 : headS m.s (min (m.s.size : Int) ((lf : Int) * 16)) = m.s.extract 0 (min (m.s.size : Int) ((lf : Int) * 16)).toNat := rfl
      rw [hh1, hh2] at HEN
      clear hk hk2 G hat hlen hh1 hh2
      have bx1 := blk_setCell_same bx 16 (.string (x.s.extract 0 lf))
      rw [cells_text] at bx1
      go_upto_region 17 with fail
      have bm1 := (blk_setCell_other wr ⟨X, 16, none⟩ (.string (x.s.extract 0 lf)) (X + 1) (by show X + 1 ≠ X; omega)).trans bm
      have bp1 := (blk_setCell_other wr ⟨X, 16, none⟩ (.string (x.s.extract 0 lf)) P (Ne.symm nn.2.1)).trans bp
      have bb1 := (blk_setCell_other wr ⟨X, 16, none⟩ (.string (x.s.extract 0 lf)) Y (Ne.symm nn.2.2.1)).trans bb
      have tl1 : Turn (fun j => w.heap.size ≤ j) wr (wr.setCell ⟨X, 16, none⟩ (.string (x.s.extract 0 lf))) := (Turn.refl _ _).setCell (p := ⟨X, 16, none⟩) (Or.inl nn.2.2.2.2.2.2.1) _
      have v1 := hv.off tl1 lt
      have t1 := ht.offS tl1 (Nat.le_refl _)
      have own1 : IL B (wr.setCell ⟨X, 16, none⟩ (.string (x.s.extract 0 lf))) _ ps := own.keep (fun g hg _ => blk_setCell_other wr ⟨X, 16, none⟩ _ g (by show g ≠ X; omega))
      clear tl1 bx bm bp bb hv ht own f16 m16 n16 c16
      generalize wr.setCell ⟨X, 16, none⟩ (.string (x.s.extract 0 lf)) = W1 at *
      have m16 := cell_of_row _ _ 16 _ _ _ bm1
      rw [cells_16] at m16
      have n16 := frozen_blk bm1 16
      have hmul : wrap64 ((lf : Int) * 16) = (lf : Int) * 16 := wrap_small _ (by omega) (by omega)
      have bm2 := blk_setCell_same bm1 16 (.string (m.s.extract 0 (min (m.s.size : Int) ((lf : Int) * 16)).toNat))
      rw [cells_text] at bm2
      go_upto_region 18 with fail
      have bx2 := (blk_setCell_other W1 ⟨X + 1, 16, none⟩ (.string (m.s.extract 0 (min (m.s.size : Int) ((lf : Int) * 16)).toNat)) X (by show X ≠ X + 1; omega)).trans bx1
      have bp2 := (blk_setCell_other W1 ⟨X + 1, 16, none⟩ (.string (m.s.extract 0 (min (m.s.size : Int) ((lf : Int) * 16)).toNat)) P (Ne.symm nn.2.2.2.1)).trans bp1
      have bb2 := (blk_setCell_other W1 ⟨X + 1, 16, none⟩ (.string (m.s.extract 0 (min (m.s.size : Int) ((lf : Int) * 16)).toNat)) Y (Ne.symm nn.2.2.2.2.1)).trans bb1
      have tl2 : Turn (fun j => w.heap.size ≤ j) W1 (W1.setCell ⟨X + 1, 16, none⟩ (.string (m.s.extract 0 (min (m.s.size : Int) ((lf : Int) * 16)).toNat))) := (Turn.refl _ _).setCell (p := ⟨X + 1, 16, none⟩) (Or.inl (show w.heap.size ≤ X + 1 by omega)) _
      have hv := v1.off tl2 lt
      have ht := t1.offS tl2 (Nat.le_refl _)
      have own := own1.keep (W' := W1.setCell ⟨X + 1, 16, none⟩ (.string (m.s.extract 0 (min (m.s.size : Int) ((lf : Int) * 16)).toNat))) (fun g hg _ => blk_setCell_other W1 ⟨X + 1, 16, none⟩ _ g (by show g ≠ X + 1; omega))
      clear tl2 bx1 bm1 bp1 bb1 v1 t1 own1 m16 n16 hmul
      have ht' := Lib.hid ht
      have own' := Lib.hid own
      clear ht own
      generalize W1.setCell ⟨X + 1, 16, none⟩ (.string (m.s.extract 0 (min (m.s.size : Int) ((lf : Int) * 16)).toNat)) = V2 at *
      have HEN2 := Lib.hid HEN.out
      clear HEN
      rw [Int.toNat_natCast] at HEN2
      generalize x.text (x.s.extract 0 lf) = xx at *
      generalize m.text (m.s.extract 0 (min (m.s.size : Int) ((lf : Int) * 16)).toNat) = mm at *
      generalize y.set 1 (shY (y.n 1) ps) = yy at *
      have bx := bx2
      have bm := bm2
      have bp := bp2
      have bb := bb2
      clear bx2 bm2 bp2 bb2
      have k0 := cell_of_row _ _ 0 _ _ _ bp
      have k1 := cell_of_row _ _ 1 _ _ _ bp
      have T0 : Turn (fun k => k = R.r ∨ k = R.m) V2 V2 := Turn.refl _ _
      go_wp2_with fail
      refine (rvput_at (R := R) (st := (saw2 st p).saw 2 0) (k := 2) (n := 0) (x := yy) (by decide) hv).mono ?_; rintro e w2 ⟨⟨v2, rfl⟩, hv2, t2⟩
      have off : ∀ {W W' : World} {st' : VSt} {b : Nat} {c : Array Value} {ty : TypeId} {fz : Nat × Nat}, RViewAt W R st' → Turn (fun k => k = R.r ∨ k = R.m) W W' → blk W b = some (.cells c ty fz) → blk W' b = some (.cells c ty fz) := fun hv' t' hb => by
        refine blk_of_turn t' hb (fun e => ?_)
        obtain ⟨_, _, q1, _⟩ := hv'.cr
        obtain ⟨_, _, q2, _⟩ := hv'.cm
        have n1 := cells_ne_map hb q1
        have n2 := cells_ne_map hb q2
        omega
      have bx2 := off hv t2 bx
      have bm2 := off hv t2 bm
      have T2 := T0.trans t2
      clear hv t2 bx bm bp bb k0 k1 T0
      go_upto_region 19 with fail
      have b0 : Below w2.heap.size w2 w2.drew := below_drewN (Below.refl _ w2) 1
      have hv3 := hv2.below b0
      have T3 := T2.trans (Turn.of_below b0 _)
      have bx3 := blk_below b0 bx2 (blk_lt bx2)
      have bm3 := blk_below b0 bm2 (blk_lt bm2)
      clear hv2 T2 bx2 bm2 b0
      refine wp_region_held_drew (S := fun W => blk W X = some (.cells (xx).cells 60 (0, 0))) (by kernel_rfl) bx3 (fun hHeld => ?_)
      clear bx3
      generalize w2.drew = W3 at *
      refine reg_take (i := 0) (v := ?_) rfl rfl (by kernel_rfl) (by kernel_rfl) (by kernel_rfl) (fun _ _ _ h => h) (by assumption) (by rfl) ?_ ?_
      rotate_left 1
      · (intro w hSw; (try dsimp only at hSw); go_simp; try with_reducible rfl)
      try simp only [List.setIfInBounds_toArray, List.set_cons_zero, List.set_cons_succ]
      refine reg_take (i := 1) (v := ?_) rfl rfl (by kernel_rfl) (by kernel_rfl) (by kernel_rfl) (fun _ _ _ h => h) (by assumption) (by rfl) ?_ ?_
      rotate_left 1
      · (intro w hSw; (try dsimp only at hSw); go_simp; try with_reducible rfl)
      try simp only [List.setIfInBounds_toArray, List.set_cons_zero, List.set_cons_succ]
      refine reg_take (i := 3) (v := (.agg (xx).cells)) rfl rfl (by kernel_rfl) (by kernel_rfl) (by kernel_rfl) (fun _ _ _ h => h) (by assumption) (by rfl) (fun W hW => loadV_blk hW) ?_
      try simp only [List.setIfInBounds_toArray, List.set_cons_zero, List.set_cons_succ]
      refine reg_step (i := 2) (by kernel_rfl) rfl (by rfl) (fun KC hKC => ?_)
      go_simp
      refine (rpkey_any p _).mono ?_; rintro e w4 ⟨rfl, t4⟩
      have r4 := blk_below t4 hHeld (blk_lt hHeld)
      have bm4 := blk_below t4 bm3 (blk_lt bm3)
      have hv4 := hv3.below t4
      have T4 := T3.trans (Turn.of_below t4 _)
      clear hHeld hv3 T3 t4 bm3
      refine hKC.out _ _ ?_ (fun hHeld => ?_)
      · exact r4
      clear hKC KC
      refine reg_step (i := 4) (by kernel_rfl) rfl (by rfl) (fun KC hKC => ?_)
      go_simp
      refine (rvput_at (R := R) (st := ((saw2 st p).saw 2 0).put 2 0 yy) (k := 4) (n := p) (x := xx) (by decide) hv4).mono ?_; rintro e w5 ⟨⟨v5, rfl⟩, hv5, t5⟩
      have T5 := T4.trans t5
      have r5 := off hv4 t5 r4
      have bm5 := off hv4 t5 bm4
      clear hHeld hv4 T4 t5 bm4 r4
      refine hKC.out _ _ ?_ (fun hHeld => ?_)
      · exact r5
      clear hKC KC
      refine wpAnyH_done (by kernel_rfl) ?_ _
      clear hHeld r5
      go_upto_region 20 with fail
      have b0 : Below w5.heap.size w5 w5.drew := below_drewN (Below.refl _ w5) 1
      have hv6 := hv5.below b0
      have T6 := T5.trans (Turn.of_below b0 _)
      have bm6 := blk_below b0 bm5 (blk_lt bm5)
      clear hv5 T5 bm5 b0
      refine wp_region_held_drew (S := fun W => blk W (X + 1) = some (.cells (mm).cells 60 (0, 0))) (by kernel_rfl) bm6 (fun hHeld => ?_)
      clear bm6
      generalize w5.drew = W6 at *
      refine reg_take (i := 0) (v := ?_) rfl rfl (by kernel_rfl) (by kernel_rfl) (by kernel_rfl) (fun _ _ _ h => h) (by assumption) (by rfl) ?_ ?_
      rotate_left 1
      · (intro w hSw; (try dsimp only at hSw); go_simp; try with_reducible rfl)
      try simp only [List.setIfInBounds_toArray, List.set_cons_zero, List.set_cons_succ]
      refine reg_take (i := 1) (v := ?_) rfl rfl (by kernel_rfl) (by kernel_rfl) (by kernel_rfl) (fun _ _ _ h => h) (by assumption) (by rfl) ?_ ?_
      rotate_left 1
      · (intro w hSw; (try dsimp only at hSw); go_simp; try with_reducible rfl)
      try simp only [List.setIfInBounds_toArray, List.set_cons_zero, List.set_cons_succ]
      refine reg_take (i := 3) (v := (.agg (mm).cells)) rfl rfl (by kernel_rfl) (by kernel_rfl) (by kernel_rfl) (fun _ _ _ h => h) (by assumption) (by rfl) (fun W hW => loadV_blk hW) ?_
      try simp only [List.setIfInBounds_toArray, List.set_cons_zero, List.set_cons_succ]
      refine reg_step (i := 2) (by kernel_rfl) rfl (by rfl) (fun KC hKC => ?_)
      go_simp
      refine (rmkey_any p _).mono ?_; rintro e w7 ⟨rfl, t7⟩
      have r7 := blk_below t7 hHeld (blk_lt hHeld)
      have hv7 := hv6.below t7
      have T7 := T6.trans (Turn.of_below t7 _)
      clear hHeld hv6 T6 t7
      refine hKC.out _ _ ?_ (fun hHeld => ?_)
      · exact r7
      clear hKC KC
      refine reg_step (i := 4) (by kernel_rfl) rfl (by rfl) (fun KC hKC => ?_)
      go_simp
      refine (rvput_at (R := R) (st := (((saw2 st p).saw 2 0).put 2 0 (yy)).put 4 p (xx)) (k := 12) (n := p) (x := mm) (by decide) hv7).mono ?_; rintro e w8 ⟨⟨v8, rfl⟩, hv8, t8⟩
      have T8 := T7.trans t8
      have r8 := off hv7 t8 r7
      rw [put_comm _ 2 0 4 p _ _ (by omega), put_comm _ 2 0 12 p _ _ (by omega)] at hv8
      clear hHeld hv7 T7 t8 r7
      refine hKC.out _ _ ?_ (fun hHeld => ?_)
      · exact r8
      clear hKC KC
      refine wpAnyH_done (by kernel_rfl) ?_ _
      clear hHeld r8
      have own8 := own'.out.keep (W' := w8) (fun g hg hl => T8.block g hl (by omega))
      have ho := Lib.hid (own8.mono hBw)
      have T9 := (rmaps ht'.out).trans T8
      clear own8 own' ht' T8
      go_wp2_with fail
      go_ret2
      exact ⟨_, rfl, ⟨fun _ => ho.out, fun q => (by cases q)⟩, by rw [HEN2.out]; exact hv8, T9⟩
end Go.Proofs.YtfcgkjbifnhjjaaGreatDoor.St

namespace Go.Proofs.YtfcgkjbifnhjjaaGreatDoor.St
open Go.RowKit
set_option linter.unusedVariables false
/-- What the loop over the pages that come back holds. -/
structure RBK (w W : World) (R : RLay) (st : VSt) (y : Val) (P Y : Nat) (zs : List Int) (j : Nat) : Prop where
  v : RViewAt W R st
  t : Turn (· = R.r) w W
  bp : blk W P = some (.cells #[.int .i64 2, .int .i64 0] 57 (0, 0))
  bb : blk W Y = some (.cells (bkV y (zs.take j)).cells 60 (0, 0))
theorem NR.at {w W : World} {R : RLay} {st : VSt} {a : Option Addr} {zs : List Int} (h : NR w a zs) (hV : RViewAt w R st) (hT : Turn (· = R.r) w W) (j : Nat) (hj : j < zs.length) : ∃ x, a = some x ∧ W.cell? (x.add j) = some (.int .i64 zs[j]) := by
  obtain ⟨x, e, c⟩ := h j hj
  have hlt := World.block_lt_of_cell? _ _ c
  obtain ⟨_, _, hr, _⟩ := hV.cr
  have hne : ¬((x.add j).block = R.r) := by
    intro q
    have hr' : w.heap[R.r]? = _ := hr
    unfold World.cell? at c; rw [q, hr'] at c; simp at c
  refine ⟨x, e, ?_⟩
  rw [World.cell?_of_block (hT.block (x.add j).block (by simpa using hlt) hne)]
  exact c
theorem set0_of (y : Val) (v : Int) : y.cells.setIfInBounds 0 (.int .i64 v) = (y.set 0 v).cells := by rw [cells_set0]
attribute [local go_sem] blk_alloc_at blk_alloc_past blk_drew blk_drewN blk_setB_same blk_setB_other blk_setRow_other setRow_alloc_at setRow_alloc_past setRow_drewN setRow_drew setB_size setB_cell setB_frozen setB_alloc_past setB_drewN setB_drew run_loadV loadOr_cells run_storeV storeOr_cells cells_size ones_cells cells_0 cells_1 cells_2 cells_16 cells_g0 cells_g1 cells_g2 cells_g16 cells_set0 cells_set1 cells_set2 cells_text run_field0 run_field1 run_index0
attribute [local go_sem ↓] execOp_loadV execOp_storeV
attribute [local irreducible] Int.lt Int.le
set_option maxRecDepth 100000 in
set_option maxHeartbeats 4000000 in
theorem rback_any (R : RLay) (st : VSt) (a : Option Addr) (cap : Nat) (zs : List Int) (hz : zs.length ≤ 1000) (w : World) (hV : RViewAt w R st) (hR : NR w a zs) :
    Calls Tryz.prog 12 #[.pointer (some ⟨R.q, 0, none⟩), .slice a zs.length cap] w fun e w' => e = .returned (.tuple #[]) ∧ RViewAt w' R ((st.saw 2 0).put 2 0 (bkV (st.get 2 0) zs)) ∧ Turn (fun k => k = R.r ∨ k = R.m) w w' := by
  have lt := hV.lts
  have hzv := zero_val
  have hRR := fun W (t : Turn (· = R.r) w W) => hR.at hV t
  obtain ⟨y, hy⟩ : ∃ y, y = st.get 2 0 := ⟨_, rfl⟩
  rw [← hy]
  have Hy := Lib.hid hy
  clear hy hR
  go_enter Tryz.func12, Tryz.ntmps12
  have b7 : Below w.heap.size w (w.alloc (Obj.cells #[.int .i64 2, .int .i64 0] 57)) := (Below.refl _ _).alloc (Nat.le_refl _) _
  have q7 : blk (w.alloc (Obj.cells #[.int .i64 2, .int .i64 0] 57)) w.heap.size = some (.cells #[.int .i64 2, .int .i64 0] 57 (0, 0)) := blk_alloc_at _ _ _ rfl
  go_upto_region 1 with fail
  have v7 := hV.below b7
  have T7 := Turn.of_below b7 (· = R.r)
  have lP : w.heap.size < (w.alloc (Obj.cells #[.int .i64 2, .int .i64 0] 57)).heap.size := blk_lt q7
  have hP : w.heap.size ≤ w.heap.size := Nat.le_refl _
  clear hV b7
  generalize w.alloc (Obj.cells #[.int .i64 2, .int .i64 0] 57) = W7 at *
  obtain ⟨P, hPe⟩ : ∃ P, P = w.heap.size := ⟨_, rfl⟩
  rw [← hPe] at q7 lP ⊢
  have hP : w.heap.size ≤ P := by omega
  have k0 := cell_of_row _ _ 0 _ _ _ q7
  have k1 := cell_of_row _ _ 1 _ _ _ q7
  clear hPe
  go_wp2_with fail
  refine (rvget_any R st 2 0 (by decide) _ v7).mono ?_; rintro e w8 ⟨rfl, v8, t8⟩
  rw [← Hy.out]
  have T8 := T7.trans t8
  have q8 := blk_of_turn t8 q7 (show ¬ P = R.r by omega)
  have l8 : P < w8.heap.size := blk_lt q8
  have hs8 := T8.size
  clear v7 T7 q7 k0 k1 t8 lP
  have b9 : Below w8.heap.size w8 (w8.alloc (Obj.cells y.cells 60)) := (Below.refl _ _).alloc (Nat.le_refl _) _
  have I0 : RBK w (w8.alloc (Obj.cells y.cells 60)) R (st.saw 2 0) y P w8.heap.size zs 0 :=
    ⟨v8.below b9, T8.trans (Turn.of_below b9 _), blk_below b9 q8 l8, blk_alloc_at _ _ _ rfl⟩
  have nn : P ≠ w8.heap.size ∧ w.heap.size ≤ w8.heap.size := by omega
  clear v8 T8 q8 b9
  go_upto_region 2 with fail
  generalize w8.alloc (Obj.cells y.cells 60) = W9 at *
  generalize w8.heap.size = Y at *
  clear l8 hs8
  go_wp2_with fail
  go_loopw [14] (fun i wr => ∃ j : Nat, j ≤ zs.length ∧ i = .int .i64 (j : Int) ∧ RBK w wr R (st.saw 2 0) y P Y zs j) (fun i _ => zs.length - (intOf i).toNat)
  case atStart => exact ⟨0, by omega, rfl, I0⟩
  case round =>
    clear I0
    obtain ⟨j, hj, rfl, H⟩ := hrel
    have j0 : (0 : Int) ≤ (j : Int) := by omega
    by_cases hlt : j < zs.length
    · have l1 : (j : Int) < (zs.length : Int) := by omega
      obtain ⟨x, rfl, x0⟩ := hRR _ H.t j hlt
      have hsnoc : bkV y (zs.take (j + 1)) = bk1 (bkV y (zs.take j)) zs[j] := by rw [List.take_succ_eq_append_getElem hlt, bkV_snoc]
      obtain ⟨g, hg⟩ : ∃ g, g = zs[j] := ⟨_, rfl⟩
      rw [← hg] at x0 hsnoc
      clear hg
      have stay : bk1 (bkV y (zs.take j)) g = bkV y (zs.take j) → RBK w wr R (st.saw 2 0) y P Y zs (j + 1) := fun q => ⟨H.v, H.t, H.bp, by rw [hsnoc, q]; exact H.bb⟩
      have hc : decide (0 ≤ g) = false ∨ (decide (0 ≤ g) = true ∧ decide (g < 64) = false) ∨ (decide (0 ≤ g) = true ∧ decide (g < 64) = true) := by
        by_cases h1 : 0 ≤ g
        · by_cases h2 : g < 64
          · exact Or.inr (Or.inr ⟨decide_eq_true h1, decide_eq_true h2⟩)
          · exact Or.inr (Or.inl ⟨decide_eq_true h1, decide_eq_false h2⟩)
        · exact Or.inl (decide_eq_false h1)
      have ST := Lib.hid stay
      have SN := Lib.hid hsnoc
      have d0 := cell_of_row _ _ 0 _ _ _ H.bb
      have d1 := cell_of_row _ _ 1 _ _ _ H.bb
      rw [cells_0] at d0
      rw [cells_1] at d1
      have f0 := frozen_blk H.bb 0
      have f1 := frozen_blk H.bb 1
      clear stay hsnoc hRR
      rcases hc with h1 | ⟨h1, h2⟩ | ⟨h1, h2⟩
      · have S := Lib.hid (ST.out (by unfold bk1; rw [if_pos (Or.inl (by have := of_decide_eq_false h1; omega))]))
        clear ST SN H
        go_wp2_with fail
        exact ⟨⟨j + 1, by omega, by go_num, S.out⟩, by simp [intOf]; omega⟩
      · have S := Lib.hid (ST.out (by unfold bk1; rw [if_pos (Or.inr (by have := of_decide_eq_false h2; omega))]))
        clear ST SN H
        go_wp2_with fail
        exact ⟨⟨j + 1, by omega, by go_num, S.out⟩, by simp [intOf]; omega⟩
      · have g0 : ¬ (g < 0 ∨ 64 ≤ g) := by have := of_decide_eq_true h1; have := of_decide_eq_true h2; omega
        obtain ⟨u, rfl⟩ := Int.eq_ofNat_of_zero_le (show 0 ≤ g by omega)
        have g1 : (0 : Int) ≤ (u : Int) := by omega
        have g2 : (u : Int) < 64 := by omega
        cases hu : usedI ((bkV y (zs.take j)).n 1) u with
        | false =>
          have S := Lib.hid (ST.out (by unfold bk1; rw [if_neg g0, show ((u : Nat) : Int).toNat = u from rfl, if_pos hu]))
          unfold usedI at hu
          clear ST SN H
          generalize (bkV y (zs.take j)) = z at *
          go_wp2_with fail
          exact ⟨⟨j + 1, by omega, by go_num, S.out⟩, by simp [intOf]; omega⟩
        | true =>
          have e : bkV y (zs.take (j + 1)) = ((bkV y (zs.take j)).set 1 (unmarkN ((bkV y (zs.take j)).n 1) u)).set 0 (markI ((bkV y (zs.take j)).n 0) u) := by
            rw [SN.out]; unfold bk1
            rw [if_neg g0, show ((u : Nat) : Int).toNat = u from rfl, hu, if_neg (by decide)]
          have E := Lib.hid e
          unfold usedI at hu
          have hv := H.v
          have ht := H.t
          have bp := H.bp
          have bb := H.bb
          clear ST SN H e
          generalize (bkV y (zs.take j)) = z at *
          go_upto_region 6 with fail
          clear x0 hu
          go_region
          rw [unmarkN_def]
          have tl1 : Turn (fun j => w.heap.size ≤ j) wr (wr.setCell ⟨Y, 1, none⟩ (.int .i64 (unmarkN (z.n 1) u))).drew := ((Turn.refl _ _).setCell (p := ⟨Y, 1, none⟩) (Or.inl nn.2) _).drew
          have bb1 := blk_setCell_same bb 1 (.int .i64 (unmarkN (z.n 1) u))
          rw [cells_set1] at bb1
          have bb1 := (blk_drew _ _).trans bb1
          have bp1 := (blk_drew _ _).trans ((blk_setCell_other wr ⟨Y, 1, none⟩ (.int .i64 (unmarkN (z.n 1) u)) P nn.1).trans bp)
          have v1 := hv.off tl1 lt
          have t1 := ht.offS tl1 (Nat.le_refl _)
          clear tl1 bb bp hv ht d0 d1 f0 f1
          generalize (wr.setCell ⟨Y, 1, none⟩ (.int .i64 (unmarkN (z.n 1) u))).drew = W1 at *
          have d0 := cell_of_row _ _ 0 _ _ _ bb1
          rw [cells_0, show (z.set 1 (unmarkN (z.n 1) u)).n 0 = z.n 0 from rfl] at d0
          have f0 := frozen_blk bb1 0
          have bb2 := blk_setCell_same bb1 0 (.int .i64 (markI (z.n 0) u))
          rw [cells_set0] at bb2
          go_upto_region 7 with fail
          go_region
          rw [markI_def]
          have tl2 : Turn (fun j => w.heap.size ≤ j) W1 (W1.setCell ⟨Y, 0, none⟩ (.int .i64 (markI (z.n 0) u))).drew := ((Turn.refl _ _).setCell (p := ⟨Y, 0, none⟩) (Or.inl nn.2) _).drew
          have bb3 := (blk_drew _ _).trans bb2
          have bp3 := (blk_drew _ _).trans ((blk_setCell_other W1 ⟨Y, 0, none⟩ (.int .i64 (markI (z.n 0) u)) P nn.1).trans bp1)
          have v3 := v1.off tl2 lt
          have t3 := t1.offS tl2 (Nat.le_refl _)
          have G : RBK w (W1.setCell ⟨Y, 0, none⟩ (.int .i64 (markI (z.n 0) u))).drew R (st.saw 2 0) y P Y zs (j + 1) := ⟨v3, t3, bp3, by rw [E.out]; exact bb3⟩
          have G := Lib.hid G
          clear tl2 bb1 bb2 bb3 bp1 bp3 v1 v3 t1 t3 d0 f0 E
          generalize (W1.setCell ⟨Y, 0, none⟩ (.int .i64 (markI (z.n 0) u))).drew = W2 at *
          go_wp2_with fail
          exact ⟨⟨j + 1, by omega, by go_num, G.out⟩, by simp [intOf]; omega⟩
    · obtain rfl : j = zs.length := by omega
      have bb := H.bb
      rw [List.take_length] at bb
      have hv := H.v
      have ht := H.t
      have bp := H.bp
      have k0 := cell_of_row _ _ 0 _ _ _ bp
      have k1 := cell_of_row _ _ 1 _ _ _ bp
      clear H hRR
      go_wp2_with fail
      refine (rvput_at (R := R) (st := st.saw 2 0) (k := 2) (n := 0) (x := bkV y zs) (by decide) hv).mono ?_; rintro e w2 ⟨⟨v2, rfl⟩, hv2, t2⟩
      go_wp2_with fail
      go_end0
      exact ⟨rfl, hv2, (rmaps ht).trans t2⟩
set_option maxRecDepth 100000 in
theorem rgrow_no (R : RLay) (st : VSt) (p n : Int) (h : qState st p = 0 ∨ (qState st p ≠ 0 ∧ n < 0)) (w : World) (hV : RViewAt w R st) :
    Calls Tryz.prog 7 #[.pointer (some ⟨R.q, 0, none⟩), .int .i64 p, .int .i64 n] w fun e w' => e = .returned (.bool false) ∧ RViewAt w' R (qSaw st p) ∧ Turn (· = R.r) w w' := by
  obtain ⟨q, hq⟩ : ∃ q, q = qState st p := ⟨_, rfl⟩
  rw [← hq] at h
  have Hq := Lib.hid hq
  clear hq
  have hc : (q == 0) = true ∨ ((q == 0) = false ∧ decide (n < 0) = true) := by
    rcases h with h | ⟨h, h'⟩
    · exact Or.inl (beq_iff_eq.2 h)
    · exact Or.inr ⟨beq_eq_false_iff_ne.2 h, decide_eq_true h'⟩
  rcases hc with h1 | ⟨h1, h2⟩
  all_goals
    go_enter Tryz.func7, Tryz.ntmps7
    go_wp2_with fail
    refine (rstate_any R st p w hV).mono ?_; rw [← Hq.out]; rintro e w1 ⟨rfl, hv1, t1⟩
    go_wp2_with fail
    go_ret
    exact ⟨rfl, hv1, t1⟩
set_option maxRecDepth 100000 in
theorem rshrink_no (R : RLay) (st : VSt) (p n : Int) (h : qState st p = 0 ∨ (qState st p ≠ 0 ∧ n < 0)) (w : World) (hV : RViewAt w R st) :
    Calls Tryz.prog 9 #[.pointer (some ⟨R.q, 0, none⟩), .int .i64 p, .int .i64 n] w fun e w' => e = .returned (.tuple #[.slice none 0 0, .bool false]) ∧ RViewAt w' R (qSaw st p) ∧ Turn (· = R.r) w w' := by
  obtain ⟨q, hq⟩ : ∃ q, q = qState st p := ⟨_, rfl⟩
  rw [← hq] at h
  have Hq := Lib.hid hq
  clear hq
  have hc : (q == 0) = true ∨ ((q == 0) = false ∧ decide (n < 0) = true) := by
    rcases h with h | ⟨h, h'⟩
    · exact Or.inl (beq_iff_eq.2 h)
    · exact Or.inr ⟨beq_eq_false_iff_ne.2 h, decide_eq_true h'⟩
  rcases hc with h1 | ⟨h1, h2⟩
  all_goals
    go_enter Tryz.func9, Tryz.ntmps9
    go_wp2_with fail
    refine (rstate_any R st p w hV).mono ?_; rw [← Hq.out]; rintro e w1 ⟨rfl, hv1, t1⟩
    go_wp2_with fail
    go_ret2
    exact ⟨rfl, hv1, t1⟩
end Go.Proofs.YtfcgkjbifnhjjaaGreatDoor.St
