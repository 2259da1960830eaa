/- The contracts of the document's own directories (IsDir, slot) over its own view. The contracts of the document's own directories (Find, Add, Remove) over its own view. The contracts of the document's own directories (Names, Bare) over its own view. No condition but those written in each statement. -/
import Derived.Test.YtfcgkjbifnhjjaaGreatQ11
import Derived.Test.YtfcgkjbifnhjjaaGreatQ15
namespace Go.Proofs.YtfcgkjbifnhjjaaGreat.St
open Go.RowKit
set_option linter.unusedVariables false
/-- The place of the entry that slot tells: by an empty name a free one. -/
def slotI (es : List Ent) (s : ByteArray) : Int := if s.size = 0 then findI (fun e => !thereE e) es else findI (bearsE s) es
def slotA (es : List Ent) (s : ByteArray) : Int := if slotI es s < 0 then -1 else slotI es s * 16
def slotN (es : List Ent) (s : ByteArray) : Int := if slotI es s < 0 then 0 else (es.getD (slotI es s).toNat (⟨#[]⟩, 0)).2
/-- The entries of a directory, one by one. -/
theorem dEnts_text {st : VSt} {i : Int} (hd : (iVal st i).n 0 = 1) :
    (dEnts st i).length = min (iVal st i).s.size 128 / 16 ∧ ∀ j (h : j < (dEnts st i).length), (dEnts st i)[j] = entE (((iVal st i).s.data.toList.drop (16 * j)).take 16) := by
  have e : iRead st i 0 128 = bs ((iVal st i).s.data.toList.take 128) := by
    unfold iRead
    split
    · have h0 : (iVal st i).s.size = 0 := by omega
      have : (iVal st i).s.data.toList = [] := by
        apply List.length_eq_zero_iff.1; rw [size_list]; exact h0
      rw [this]; rfl
    · have hl := size_list (iVal st i).s
      rw [show Int.toNat 0 = 0 from rfl, ← bs_list (iVal st i).s, bs_take, list_bs]
      congr 1
      rw [bs_size, hl]
      by_cases c : (iVal st i).s.size ≤ 128
      · rw [List.take_of_length_le (by omega), List.take_of_length_le (by omega)]
      · congr 1; omega
  have hl := size_list (iVal st i).s
  have hes : dEnts st i = entsL ((iVal st i).s.data.toList.take 128) := by
    unfold dEnts; rw [if_pos hd, e, list_bs]
  refine ⟨by rw [hes, entsL_len, List.length_take, hl, Nat.min_comm], fun j h => ?_⟩
  have h' : j < (entsL ((iVal st i).s.data.toList.take 128)).length := by rw [← hes]; exact h
  have hj : j < ((iVal st i).s.data.toList.take 128).length / 16 := by rw [← entsL_len]; exact h'
  have := entsL_at _ j hj
  rw [List.getElem?_eq_getElem h'] at this
  injection this with this
  have e2 : (dEnts st i)[j] = (entsL ((iVal st i).s.data.toList.take 128))[j] := by simp only [hes]
  rw [e2, this]
  unfold entAt
  congr 1
  rw [List.length_take] at hj
  rw [List.drop_take, List.take_take]
  congr 1
  omega
theorem has_ne' (st : VSt) (i : Int) : ((iVal st i).n 0 != 0) = iHas st i := by
  unfold iVal iHas iValIn
  split
  · rfl
  · by_cases e : (st.get 10 i).n 0 = 0
    · rw [if_pos e, e]; rfl
    · rw [if_neg e]; rfl
theorem has_dir {st : VSt} {i : Int} (hd : (iVal st i).n 0 = 1) : iHas st i = true := by
  rw [← has_ne' st i, hd]; rfl
attribute [local go_sem] blk_alloc_at blk_alloc_past blk_drew blk_drewN blk_setB_same blk_setB_other blk_setRow_other setRow_alloc_at setRow_alloc_past setRow_drewN setRow_drew setB_size setB_cell setB_frozen setB_alloc_past setB_drewN setB_drew run_loadV loadOr_cells run_storeV storeOr_cells cells_size ones_cells cells_0 cells_1 cells_2 cells_16 cells_g0 cells_g1 cells_g2 cells_g16 cells_set0 cells_set1 cells_set2 cells_text run_field0 run_field1 run_index0
attribute [local go_sem ↓] execOp_loadV execOp_storeV
attribute [local irreducible] Int.lt Int.le
set_option maxRecDepth 100000 in
set_option maxHeartbeats 1000000 in
theorem risdir_any (R : RLay) (st : VSt) (i : Int) (w : World) (hV : RViewAt w R st) :
    Calls Tryz.prog 13 #[.pointer (some ⟨R.q, 0, none⟩), .int .i64 i] w fun e w' => e = .returned (.bool ((iVal st i).n 0 == 1)) ∧ RViewAt w' R (iSaw st i) ∧ Turn (· = R.r) w w' := by
  cases hh : iHas st i with
  | false =>
    have ev := val_none hh
    have e0 : ((iVal st i).n 0 == 1) = false := by rw [ev]; rfl
    rw [e0]
    clear ev e0
    go_enter Tryz.func13, Tryz.ntmps13
    go_wp2_with fail
    refine (ris_any R st i _ hV).mono ?_; rintro e w1 ⟨rfl, hv1, t1⟩
    go_wp2_with fail
    go_ret
    exact ⟨rfl, hv1, t1⟩
  | true =>
    obtain ⟨es, ev⟩ := has_val hh
    have HS := Lib.hid es
    have HV := Lib.hid ev
    clear es ev
    go_enter Tryz.func13, Tryz.ntmps13
    go_wp2_with fail
    refine (ris_any R st i _ hV).mono ?_; rintro e w1 ⟨rfl, hv1, t1⟩
    rw [HS.out] at hv1
    go_wp2_with fail
    refine (rikey_any i _).mono ?_; rintro e w2 ⟨rfl, t2⟩
    have hv2 := hv1.below t2
    have T2 := t1.trans (Turn.of_below t2 _)
    clear hv1 t1 t2 hV
    go_wp2_with fail
    refine (rvget_any R _ 10 i (by decide) _ hv2).mono ?_; rintro e w3 ⟨rfl, hv3, t3⟩
    rw [saw_twice] at hv3
    rw [get_saw']
    have T3 := T2.trans t3
    generalize hx : st.get 10 i = x at *
    clear hv2 T2 t3
    go_wp2_with fail
    go_ret
    exact ⟨by rw [HV.out]; rfl, by rw [HS.out]; exact hv3, T3⟩
/-- What slot looks for: a name's entry, or a free one. -/
def hitE (s : ByteArray) (e : Ent) : Bool := if s.size = 0 then !thereE e else bearsE s e
theorem slotI_hit (es : List Ent) (s : ByteArray) : slotI es s = findI (hitE s) es := by
  unfold slotI hitE
  by_cases h : s.size = 0
  · simp only [if_pos h]
  · simp only [if_neg h]
theorem chunk_list (s : ByteArray) (a : Nat) : (s.extract a (a + 16)).data.toList = (s.data.toList.drop a).take 16 := by
  simp [ByteArray.data_extract, Array.toList_extract, List.extract_eq_take_drop]
theorem hitE_nil (e : Ent) : hitE ⟨#[]⟩ e = !thereE e := by unfold hitE; exact if_pos rfl
theorem slot_none {es : List Ent} {s : ByteArray} (h : ∀ t (ht : t < es.length), hitE s es[t] = false) : slotA es s = -1 ∧ slotN es s = 0 := by
  have e : slotI es s = -1 := by rw [slotI_hit]; exact findI_miss h
  unfold slotA slotN
  rw [e]; exact ⟨rfl, rfl⟩
theorem slot_some {es : List Ent} {s : ByteArray} {j : Nat} (hj : j < es.length) (h : ∀ t (ht : t < es.length), t < j → hitE s es[t] = false) (hb : hitE s es[j] = true) : slotA es s = ((16 * j : Nat) : Int) ∧ slotN es s = es[j].2 := by
  have e : slotI es s = j := by rw [slotI_hit]; exact findI_hit hj hb h
  unfold slotA slotN
  rw [e, if_neg (by omega), if_neg (by omega)]
  refine ⟨by omega, ?_⟩
  rw [Int.toNat_natCast, List.getD, List.getElem?_eq_getElem hj]; rfl
theorem there_cases (x : ByteArray) (n : Int) : (thereE (x, n) = true ∧ decide (1 ≤ n) = true ∧ decide (n < 16) = true) ∨ (thereE (x, n) = false ∧ decide (1 ≤ n) = false) ∨ (thereE (x, n) = false ∧ decide (1 ≤ n) = true ∧ decide (n < 16) = false) := by
  unfold thereE
  dsimp only
  cases h1 : decide (1 ≤ n) <;> cases h2 : decide (n < 16) <;> simp
set_option maxRecDepth 100000 in
set_option maxHeartbeats 4000000 in
theorem rslot_any (R : RLay) (st : VSt) (d : Int) (s : ByteArray) (hd : (iVal st d).n 0 = 1) (hs : s.size ≤ 1048576) (hz : (iVal st d).s.size ≤ 1048576) (w : World) (hV : RViewAt w R st) :
    Calls Tryz.prog 36 #[.pointer (some ⟨R.q, 0, none⟩), .int .i64 d, .string s] w fun e w' => e = .returned (.tuple #[.int .i64 (slotA (dEnts st d) s), .int .i64 (slotN (dEnts st d) s)]) ∧ RViewAt w' R (iSaw st d) ∧ Turn (· = R.r) w w' := by
  obtain ⟨es', ev⟩ := has_val (has_dir hd)
  obtain ⟨hl, hat⟩ := dEnts_text hd
  have h8 := dEnts_len st d
  rw [ev] at hl hat hz
  have HS := Lib.hid es'
  clear es' ev hd
  generalize dEnts st d = es at *
  go_enter Tryz.func36, Tryz.ntmps36
  go_wp2_with fail
  refine (rikey_any d _).mono ?_; rintro e w1 ⟨rfl, t1⟩
  have hv1 := hV.below t1
  have T1 := Turn.of_below t1 (· = R.r)
  clear hV t1
  go_wp2_with fail
  refine (rvget_any R _ 10 d (by decide) _ hv1).mono ?_; rintro e w2 ⟨rfl, hv2, t2⟩
  have T2 := T1.trans t2
  rw [← HS.out] at hv2
  generalize st.get 10 d = x at *
  clear hv1 T1 t2
  go_wp2_with fail
  go_loopw [9] (fun i wr => ∃ j k : Nat, j ≤ es.length ∧ k = 16 * j ∧ i = .int .i64 (k : Int) ∧ RViewAt wr R (iSaw st d) ∧ Turn (· = R.r) w wr ∧ ∀ t (ht : t < es.length), t < j → hitE s es[t] = false) (fun i _ => 128 - (intOf i).toNat)
  case atStart => exact ⟨0, 0, Nat.zero_le _, rfl, rfl, hv2, T2, fun t _ ht => absurd ht (by omega)⟩
  case round =>
    obtain ⟨j, k, hj, hk, rfl, hv, T, hne⟩ := hrel
    have k0 : (0 : Int) ≤ (k : Int) := by omega
    have kb : (k : Int) ≤ 128 := by omega
    by_cases hlt : j < es.length
    · have l1 : (k : Int) + 16 ≤ (x.s.size : Int) := by omega
      have l2 : (k : Int) < 128 := by omega
      have l3 : (k : Int) ≤ (k : Int) + 16 := by omega
      have hchunk : (x.s.extract k (k + 16)).data.toList = (x.s.data.toList.drop (16 * j)).take 16 := by rw [chunk_list, hk]
      have he : es[j] = (bs (unpL (x.s.extract k (k + 16)).data.toList), unpN (x.s.extract k (k + 16)).data.toList) := by rw [hchunk]; exact hat j hlt
      have hu := fun W => refUnpack_any (x.s.extract k (k + 16)) W (by rw [ByteArray.size_extract]; omega)
      have hmiss : hitE s es[j] = false → ∀ t (ht : t < es.length), t < j + 1 → hitE s es[t] = false := fun hm t ht h2 => by
        by_cases q : t = j
        · subst q; exact hm
        · exact hne t ht (by omega)
      have hhit : hitE s es[j] = true → slotA es s = (k : Int) ∧ slotN es s = es[j].2 := fun hm => by rw [hk]; exact slot_some hlt hne hm
      rw [he] at hmiss hhit
      generalize bs (unpL (x.s.extract k (k + 16)).data.toList) = X at *
      generalize unpN (x.s.extract k (k + 16)).data.toList = N at *
      have HM := Lib.hid hmiss
      have HH := Lib.hid hhit
      have HK := Lib.hid hk
      clear hk he hchunk hat hne hmiss hhit hv2 T2
      go_wp2_with fail
      refine (hu _).mono ?_; rintro e W1 ⟨rfl, t1⟩
      have hv' := hv.below t1
      have T' := T.trans (Turn.of_below t1 _)
      clear hv T t1 hu
      by_cases hs0 : s.size = 0
      · obtain rfl := empty_toList hs0
        clear hs hs0
        rcases there_cases X N with ⟨c, g1, g2⟩ | ⟨c, g1⟩ | ⟨c, g1, g2⟩
        · have M := Lib.hid (HM.out (by rw [hitE_nil, c]; rfl))
          clear HM HH c
          by_cases hx : X.size = 0
          · obtain rfl := empty_toList hx
            clear hx
            go_wp2_with fail
            exact ⟨⟨j + 1, k + 16, by omega, by rw [HK.out]; omega, by go_num, hv', T', M.out⟩, by simp [intOf]; omega⟩
          · have x1 := str_toList_ne (Nat.pos_of_ne_zero hx)
            have x2 := str_some X (Nat.pos_of_ne_zero hx)
            clear hx
            go_wp2_with fail
            exact ⟨⟨j + 1, k + 16, by omega, by rw [HK.out]; omega, by go_num, hv', T', M.out⟩, by simp [intOf]; omega⟩
        · obtain ⟨a1, a2⟩ := HH.out (by rw [hitE_nil, c]; rfl)
          have A1 := Lib.hid a1
          have A2 := Lib.hid a2
          clear HM HH c a1 a2
          go_wp2_with fail
          go_ret2
          exact ⟨by rw [A1.out, A2.out] <;> rfl, hv', T'⟩
        · obtain ⟨a1, a2⟩ := HH.out (by rw [hitE_nil, c]; rfl)
          have A1 := Lib.hid a1
          have A2 := Lib.hid a2
          clear HM HH c a1 a2
          go_wp2_with fail
          go_ret2
          exact ⟨by rw [A1.out, A2.out] <;> rfl, hv', T'⟩
      · have s1 := str_toList_ne (Nat.pos_of_ne_zero hs0)
        have s2 := str_some s (Nat.pos_of_ne_zero hs0)
        have hb : hitE s (X, N) = (thereE (X, N) && decide (X = s)) := by unfold hitE; rw [if_neg hs0]; rfl
        rw [hb] at HM HH
        clear hb hs hs0
        rcases there_cases X N with ⟨c, g1, g2⟩ | ⟨c, g1⟩ | ⟨c, g1, g2⟩
        · by_cases hx : X = s
          · subst hx
            obtain ⟨a1, a2⟩ := HH.out (by rw [c]; simp)
            have A1 := Lib.hid a1
            have A2 := Lib.hid a2
            clear HM HH c a1 a2
            go_wp2_with fail
            go_ret2
            exact ⟨by rw [A1.out, A2.out] <;> rfl, hv', T'⟩
          · have M := Lib.hid (HM.out (by rw [c, decide_eq_false hx]; rfl))
            have x1 := str_dec X s
            rw [decide_eq_false hx] at x1
            have x2 : ¬ X.toList = s.toList := beq_eq_false_iff_ne.1 x1
            clear HM HH c hx
            go_wp2_with fail
            exact ⟨⟨j + 1, k + 16, by omega, by rw [HK.out]; omega, by go_num, hv', T', M.out⟩, by simp [intOf]; omega⟩
        · have M := Lib.hid (HM.out (by rw [c]; rfl))
          clear HM HH c
          go_wp2_with fail
          exact ⟨⟨j + 1, k + 16, by omega, by rw [HK.out]; omega, by go_num, hv', T', M.out⟩, by simp [intOf]; omega⟩
        · have M := Lib.hid (HM.out (by rw [c]; rfl))
          clear HM HH c
          go_wp2_with fail
          exact ⟨⟨j + 1, k + 16, by omega, by rw [HK.out]; omega, by go_num, hv', T', M.out⟩, by simp [intOf]; omega⟩
    · obtain rfl : j = es.length := by omega
      obtain ⟨a1, a2⟩ := slot_none (s := s) (fun t ht => hne t ht ht)
      have A1 := Lib.hid a1
      have A2 := Lib.hid a2
      have hg : decide ((k : Int) + 16 ≤ (x.s.size : Int)) = false ∨ decide ((k : Int) + 16 ≤ (x.s.size : Int)) = true ∧ decide ((k : Int) < 128) = false := by
        simp only [decide_eq_false_iff_not, decide_eq_true_eq]; omega
      clear a1 a2 hne hat hl hz h8 hs hk
      rcases hg with g1 | ⟨g1, g2⟩
      all_goals
        go_wp2_with fail
        go_ret2
        exact ⟨by rw [A1.out, A2.out] <;> rfl, hv, T⟩
end Go.Proofs.YtfcgkjbifnhjjaaGreat.St

namespace Go.Proofs.YtfcgkjbifnhjjaaGreat.St
open Go.RowKit
set_option linter.unusedVariables false
theorem right_size {s : ByteArray} (h : rightL s.data.toList = true) : ¬ s.size = 0 := fun e => by
  rw [show s = ⟨#[]⟩ from empty_toList e] at h
  cases h
theorem slotI_place {es : List Ent} {s : ByteArray} (h : rightL s.data.toList = true) : slotI es s = placeE es s := by
  unfold slotI placeE
  rw [if_pos h, if_neg (right_size h)]
theorem slotI_free (es : List Ent) : slotI es ⟨#[]⟩ = findI (fun e => !thereE e) es := by
  unfold slotI; exact if_pos rfl
theorem slotI_ge (es : List Ent) (s : ByteArray) : -1 ≤ slotI es s := by
  rw [slotI_hit]
  rcases findI_cases (hitE s) es with ⟨e, _⟩ | ⟨j, _, e, _⟩ <;> omega
theorem slotA_neg {es : List Ent} {s : ByteArray} : decide (0 ≤ slotA es s) = !decide (slotI es s < 0) := by
  unfold slotA
  split
  · rename_i h; rw [decide_eq_true h]; rfl
  · rename_i h; rw [decide_eq_false h]; exact decide_eq_true (by omega)
theorem ret_two (a b : Int) (x y : Bool) (h : a = b) (g : x = y) : Ending.returned (.tuple #[.int .i64 a, .bool x]) = Ending.returned (.tuple #[.int .i64 b, .bool y]) := by rw [h, g]
theorem dEnts_no {st : VSt} {i : Int} (h : ¬ (iVal st i).n 0 = 1) : dEnts st i = [] := by unfold dEnts; rw [if_neg h]
theorem place_nil (s : ByteArray) : placeE [] s = -1 := by unfold placeE; split <;> rfl
theorem there_range' {s : ByteArray} {n : Int} (h : thereE (s, n) = true) : 1 ≤ n ∧ n < 16 := by
  unfold thereE at h; simpa using h
section
attribute [local go_sem] cells_size cells_0 cells_1 cells_2 cells_16 cells_g0 cells_g1 cells_g2 cells_g16 cells_text run_field0 run_field1 run_index0
attribute [local irreducible] Int.lt Int.le
set_option maxRecDepth 100000 in
set_option maxHeartbeats 1000000 in
theorem rfind_any (R : RLay) (st : VSt) (i : Int) (s : ByteArray) (hs : s.size ≤ 1048576) (hz : (iVal st i).s.size ≤ 1048576) (w : World) (hV : RViewAt w R st) :
    Calls Tryz.prog 11 #[.pointer (some ⟨R.q, 0, none⟩), .int .i64 i, .string s] w fun e w' => e = .returned (.tuple #[.int .i64 (fndN (dEnts st i) s), .bool (fndB (dEnts st i) s)]) ∧ RViewAt w' R (iSaw st i) ∧ Turn (· = R.r) w w' := by
  have h1 := risdir_any R st i w hV
  have h2 := fun W => refRight_any s W hs
  have h3 := fun (hd : (iVal st i).n 0 = 1) (W : World) (h : RViewAt W R (iSaw st i)) => rslot_any R (iSaw st i) i s (by rw [iVal_iSaw]; exact hd) hs (by rw [iVal_iSaw]; exact hz) W h
  simp only [dEnts_iSaw, iSaw_iSaw] at h3
  have no : placeE (dEnts st i) s < 0 → fndN (dEnts st i) s = 0 ∧ fndB (dEnts st i) s = false := by
    intro q; unfold fndN fndB; rw [if_pos q, decide_eq_true q]; exact ⟨rfl, rfl⟩
  by_cases hd : (iVal st i).n 0 = 1
  · rw [show ((iVal st i).n 0 == 1) = true from beq_iff_eq.2 hd] at h1
    have h4 := h3 hd
    by_cases hr : rightL s.data.toList = true
    · rw [hr] at h2
      have e1 : fndN (dEnts st i) s = slotN (dEnts st i) s := by unfold fndN slotN; rw [slotI_place hr]
      have e2 : fndB (dEnts st i) s = decide (0 ≤ slotA (dEnts st i) s) := by unfold fndB; rw [slotA_neg, slotI_place hr]
      rw [e1, e2]
      generalize slotN (dEnts st i) s = N at *
      generalize slotA (dEnts st i) s = A at *
      clear e1 e2 no hr h3 hd hs hz
      go_enter Tryz.func11, Tryz.ntmps11
      go_wp2_with fail
      refine h1.mono ?_; rintro e W1 ⟨rfl, v1, t1⟩
      clear h1
      go_wp2_with fail
      refine (h2 _).mono ?_; rintro e W2 ⟨rfl, rfl⟩
      go_wp2_with fail
      refine (h4 _ v1).mono ?_; rintro e W3 ⟨rfl, v3, t3⟩
      go_wp2_with fail
      go_ret2
      exact ⟨rfl, v3, t1.trans t3⟩
    · rw [show rightL s.data.toList = false by simpa using hr] at h2
      obtain ⟨e1, e2⟩ := no (by unfold placeE; rw [if_neg hr]; decide)
      rw [e1, e2]
      clear e1 e2 no hr h3 h4 hd hs hz
      go_enter Tryz.func11, Tryz.ntmps11
      go_wp2_with fail
      refine h1.mono ?_; rintro e W1 ⟨rfl, v1, t1⟩
      clear h1
      go_wp2_with fail
      refine (h2 _).mono ?_; rintro e W2 ⟨rfl, rfl⟩
      go_wp2_with fail
      go_ret2
      exact ⟨rfl, v1, t1⟩
  · rw [show ((iVal st i).n 0 == 1) = false from beq_eq_false_iff_ne.2 hd] at h1
    obtain ⟨e1, e2⟩ := no (by rw [dEnts_no hd, place_nil]; decide)
    rw [e1, e2]
    clear e1 e2 no h3 hd hs hz h2
    go_enter Tryz.func11, Tryz.ntmps11
    go_wp2_with fail
    refine h1.mono ?_; rintro e W1 ⟨rfl, v1, t1⟩
    clear h1
    go_wp2_with fail
    go_ret2
    exact ⟨rfl, v1, t1⟩
/-- What may not be added. -/
theorem radd_no (R : RLay) (st : VSt) (i : Int) (s : ByteArray) (n : Int) (hs : s.size ≤ 1048576) (hz : (iVal st i).s.size ≤ 1048576) (w : World) (hV : RViewAt w R st)
    (hc : ¬((iVal st i).n 0 = 1 ∧ rightL s.data.toList = true ∧ thereE (s, n) = true ∧ placeE (dEnts st i) s < 0)) :
    Calls Tryz.prog 6 #[.pointer (some ⟨R.q, 0, none⟩), .int .i64 i, .string s, .int .i64 n] w fun e w' => e = .returned (.bool false) ∧ RViewAt w' R (iSaw st i) ∧ Turn (· = R.r) w w' := by
  have h1 := risdir_any R st i w hV
  have h2 := fun W => refRight_any s W hs
  have h3 := fun (hd : (iVal st i).n 0 = 1) (W : World) (h : RViewAt W R (iSaw st i)) => rslot_any R (iSaw st i) i s (by rw [iVal_iSaw]; exact hd) hs (by rw [iVal_iSaw]; exact hz) W h
  simp only [dEnts_iSaw, iSaw_iSaw] at h3
  by_cases hd : (iVal st i).n 0 = 1
  · rw [show ((iVal st i).n 0 == 1) = true from beq_iff_eq.2 hd] at h1
    have h4 := h3 hd
    by_cases hr : rightL s.data.toList = true
    · rw [hr] at h2
      rcases there_cases s n with ⟨c, g1, g2⟩ | ⟨c, g1⟩ | ⟨c, g1, g2⟩
      · have hp : ¬ placeE (dEnts st i) s < 0 := fun q => hc ⟨hd, hr, c, q⟩
        have hA : 0 ≤ slotA (dEnts st i) s := by
          have := slotA_neg (es := dEnts st i) (s := s)
          rw [slotI_place hr, decide_eq_false hp] at this
          simpa using this
        have hA2 : decide (0 ≤ slotA (dEnts st i) s) = true := decide_eq_true hA
        have n1 : decide (n < 1) = false := by simp at g1 ⊢; omega
        have n2 : decide (16 ≤ n) = false := by simp at g2 ⊢; omega
        generalize slotN (dEnts st i) s = N at *
        generalize slotA (dEnts st i) s = A at *
        clear hp hr h3 hd hs hz hc c g1 g2
        go_enter Tryz.func6, Tryz.ntmps6
        go_wp2_with fail
        refine h1.mono ?_; rintro e W1 ⟨rfl, v1, t1⟩
        clear h1
        go_wp2_with fail
        refine (h2 _).mono ?_; rintro e W2 ⟨rfl, rfl⟩
        go_wp2_with fail
        refine (h4 _ v1).mono ?_; rintro e W3 ⟨rfl, v3, t3⟩
        go_wp2_with fail
        go_ret
        exact ⟨rfl, v3, t1.trans t3⟩
      all_goals
        have n1 : decide (n < 1) = true ∨ decide (n < 1) = false ∧ decide (16 ≤ n) = true := by simp at *; omega
        clear hr h3 h4 hd hs hz hc c g1
        rcases n1 with n1 | ⟨n1, n2⟩
        all_goals
          go_enter Tryz.func6, Tryz.ntmps6
          go_wp2_with fail
          refine h1.mono ?_; rintro e W1 ⟨rfl, v1, t1⟩
          clear h1
          go_wp2_with fail
          refine (h2 _).mono ?_; rintro e W2 ⟨rfl, rfl⟩
          go_wp2_with fail
          go_ret
          exact ⟨rfl, v1, t1⟩
    · rw [show rightL s.data.toList = false by simpa using hr] at h2
      clear hr h3 h4 hd hs hz hc
      go_enter Tryz.func6, Tryz.ntmps6
      go_wp2_with fail
      refine h1.mono ?_; rintro e W1 ⟨rfl, v1, t1⟩
      clear h1
      go_wp2_with fail
      refine (h2 _).mono ?_; rintro e W2 ⟨rfl, rfl⟩
      go_wp2_with fail
      go_ret
      exact ⟨rfl, v1, t1⟩
  · rw [show ((iVal st i).n 0 == 1) = false from beq_eq_false_iff_ne.2 hd] at h1
    clear h3 hd hs hz h2 hc
    go_enter Tryz.func6, Tryz.ntmps6
    go_wp2_with fail
    refine h1.mono ?_; rintro e W1 ⟨rfl, v1, t1⟩
    clear h1
    go_wp2_with fail
    go_ret
    exact ⟨rfl, v1, t1⟩
set_option maxRecDepth 100000 in
set_option maxHeartbeats 4000000 in
theorem radd_yes (R : RLay) (st : VSt) (i : Int) (s : ByteArray) (n : Int) (hs : s.size ≤ 1048576) (hz : (iVal st i).s.size ≤ 1048576) (w : World) (hV : RViewAt w R st)
    (hc : (iVal st i).n 0 = 1 ∧ rightL s.data.toList = true ∧ thereE (s, n) = true ∧ placeE (dEnts st i) s < 0) :
    Calls Tryz.prog 6 #[.pointer (some ⟨R.q, 0, none⟩), .int .i64 i, .string s, .int .i64 n] w fun e w' => e = .returned (.bool (dAddB st i s n)) ∧ RViewAt w' R (dAdd st i s n) ∧ Turn (fun k => k = R.r ∨ k = R.m) w w' := by
  have ea : addAt st i s n = if addO (iVal st i).s.size (findI (fun e => !thereE e) (dEnts st i)) + 16 ≤ 128 then
      some (addO (iVal st i).s.size (findI (fun e => !thereE e) (dEnts st i))) else none := by
    unfold addAt; rw [if_pos hc]
  have hl := dEnts_len st i
  have hg : -1 ≤ findI (fun e => !thereE e) (dEnts st i) ∧ findI (fun e => !thereE e) (dEnts st i) ≤ 8 := by
    rcases findI_cases (fun e => !thereE e) (dEnts st i) with ⟨e, _⟩ | ⟨j, hj, e, hb, _⟩ <;> omega
  have hR : ∀ o, addAt st i s n = some o → dAdd st i s n = iWrite st i o (bs (packL s.data.toList n)) ∧ dAddB st i s n = (iWrote st i o (bs (packL s.data.toList n)) == 16) := by
    intro o e; unfold dAdd dAddB; rw [e]; exact ⟨rfl, rfl⟩
  have hN : addAt st i s n = none → dAdd st i s n = iSaw st i ∧ dAddB st i s n = false := by
    intro e; unfold dAdd dAddB; rw [e]; exact ⟨rfl, rfl⟩
  obtain ⟨hd, hr, hth, hp⟩ := hc
  have h1 := risdir_any R st i w hV
  rw [show ((iVal st i).n 0 == 1) = true from beq_iff_eq.2 hd] at h1
  have h2 := fun W => refRight_any s W hs
  rw [hr] at h2
  have h3 := fun (W : World) (h : RViewAt W R (iSaw st i)) => rslot_any R (iSaw st i) i s (by rw [iVal_iSaw]; exact hd) hs (by rw [iVal_iSaw]; exact hz) W h
  have h5 := fun (W : World) (h : RViewAt W R (iSaw st i)) => rslot_any R (iSaw st i) i ⟨#[]⟩ (by rw [iVal_iSaw]; exact hd) (by decide) (by rw [iVal_iSaw]; exact hz) W h
  have hk := fun W => refPack_any s n W hs
  have hw := fun (o : Int) (W : World) (h : RViewAt W R (iSaw st i)) => rwrite_any R (iSaw st i) i o (bs (packL s.data.toList n)) (by rw [iVal_iSaw]; omega) (by rw [bs_size, packL_len]; decide) W h
  simp only [iWrote_iSaw, iWrite_iSaw] at hw
  simp only [dEnts_iSaw, iSaw_iSaw] at h3 h5
  have hA : slotA (dEnts st i) s = -1 := by unfold slotA; rw [slotI_place hr, if_pos hp]
  rw [hA] at h3
  have hF : slotA (dEnts st i) ⟨#[]⟩ = if findI (fun e => !thereE e) (dEnts st i) < 0 then -1 else findI (fun e => !thereE e) (dEnts st i) * 16 := by unfold slotA; rw [slotI_free]
  rw [hF] at h5
  obtain ⟨es', ev⟩ := has_val (has_dir hd)
  have hgk := fun (W : World) (h : RViewAt W R (iSaw st i)) => rvget_any R (iSaw st i) 10 i (by decide) W h
  simp only [es', saw_twice, get_saw', ← ev] at hgk
  simp only [← es'] at hgk
  have n1 : decide (n < 1) = false := by have := there_range' hth; simp; omega
  have n2 : decide (16 ≤ n) = false := by have := there_range' hth; simp; omega
  generalize slotN (dEnts st i) ⟨#[]⟩ = N2 at *
  generalize slotN (dEnts st i) s = N at *
  generalize findI (fun e => !thereE e) (dEnts st i) = f at *
  generalize addAt st i s n = A at *
  generalize dAdd st i s n = V at *
  generalize dAddB st i s n = X at *
  generalize bs (packL s.data.toList n) = D at *
  generalize iVal st i = x at *
  clear hs hd hr hth hp hA hF es' ev hl hV
  have Ea := Lib.hid ea
  have HR := Lib.hid hR
  have HN := Lib.hid hN
  have hz1 : (x.s.size : Int) ≤ 1048576 := by omega
  clear ea hR hN hz
  go_enter Tryz.func6, Tryz.ntmps6
  go_wp2_with fail
  refine h1.mono ?_; rintro e W1 ⟨rfl, v1, t1⟩
  clear h1
  go_wp2_with fail
  refine (h2 _).mono ?_; rintro e W2 ⟨rfl, rfl⟩
  go_wp2_with fail
  refine (h3 _ v1).mono ?_; rintro e W3 ⟨rfl, v3, t3⟩
  have T3 := t1.trans t3
  clear h2 h3 v1 t1 t3
  go_wp2_with fail
  refine (h5 _ v3).mono ?_; rintro e W5 ⟨rfl, v5, t5⟩
  have T5 := T3.trans t5
  clear h5 v3 T3 t5
  by_cases hf0 : f < 0
  · obtain rfl : f = -1 := by omega
    have e0 := Ea.out
    rw [addO_neg] at e0
    have HE := Lib.hid e0
    clear e0 Ea hf0
    rw [if_pos (by decide)]
    go_wp2_with fail
    refine (rikey_any i _).mono ?_; rintro e W6 ⟨rfl, t6⟩
    have v6 := v5.below t6
    have T6 := T5.trans (Turn.of_below t6 _)
    clear v5 T5 t6
    go_wp2_with fail
    refine (hgk _ v6).mono ?_; rintro e W7 ⟨rfl, v7, t7⟩
    have T7 := T6.trans t7
    clear v6 T6 t7 hgk
    by_cases hk2 : (x.s.size : Int) / 16 * 16 + 16 ≤ 128
    · have eA := HE.out
      rw [if_pos hk2] at eA
      obtain ⟨a1, a2⟩ := HR.out _ eA
      have Hv1 := Lib.hid a1
      have Hv2 := Lib.hid a2
      clear a1 a2 eA HE HR HN
      go_wp2_with fail
      refine (hk _).mono ?_; rintro e W8 ⟨rfl, t8⟩
      have v8 := v7.below t8
      have T8 := T7.trans (Turn.of_below t8 _)
      clear hk v7 T7 t8
      go_wp2_with fail
      refine (hw _ _ v8).mono ?_; rintro e W9 ⟨rfl, v9, t9⟩
      go_wp2_with fail
      go_ret
      exact ⟨ret_bool Hv2.out.symm, by rw [Hv1.out]; exact v9, (rmaps T8).trans t9⟩
    · have eA := HE.out
      rw [if_neg hk2] at eA
      obtain ⟨a1, a2⟩ := HN.out eA
      have Hv1 := Lib.hid a1
      have Hv2 := Lib.hid a2
      clear a1 a2 eA HE HR HN
      go_wp2_with fail
      go_ret
      exact ⟨ret_bool Hv2.out.symm, by rw [Hv1.out]; exact v7, rmaps T7⟩
  · have e0 := Ea.out
    rw [addO_pos _ f hf0] at e0
    have HE := Lib.hid e0
    clear e0 Ea
    have hf1 : 0 ≤ f := by omega
    have hf2 : f ≤ 8 := hg.2
    have hf3 : decide (f * 16 < 0) = false := decide_eq_false (by omega)
    rw [if_neg hf0]
    by_cases hk2 : f * 16 + 16 ≤ 128
    · have eA := HE.out
      rw [if_pos hk2] at eA
      obtain ⟨a1, a2⟩ := HR.out _ eA
      have Hv1 := Lib.hid a1
      have Hv2 := Lib.hid a2
      clear a1 a2 eA HE HR HN hg hf0 hgk
      go_wp2_with fail
      refine (hk _).mono ?_; rintro e W8 ⟨rfl, t8⟩
      have v8 := v5.below t8
      have T8 := T5.trans (Turn.of_below t8 _)
      clear hk v5 T5 t8
      go_wp2_with fail
      refine (hw _ _ v8).mono ?_; rintro e W9 ⟨rfl, v9, t9⟩
      go_wp2_with fail
      go_ret
      exact ⟨ret_bool Hv2.out.symm, by rw [Hv1.out]; exact v9, (rmaps T8).trans t9⟩
    · have eA := HE.out
      rw [if_neg hk2] at eA
      obtain ⟨a1, a2⟩ := HN.out eA
      have Hv1 := Lib.hid a1
      have Hv2 := Lib.hid a2
      clear a1 a2 eA HE HR HN hg hf0 hgk
      go_wp2_with fail
      go_ret
      exact ⟨ret_bool Hv2.out.symm, by rw [Hv1.out]; exact v5, rmaps T5⟩
theorem radd_any (R : RLay) (st : VSt) (i : Int) (s : ByteArray) (n : Int) (hs : s.size ≤ 1048576) (hz : (iVal st i).s.size ≤ 1048576) (w : World) (hV : RViewAt w R st) :
    Calls Tryz.prog 6 #[.pointer (some ⟨R.q, 0, none⟩), .int .i64 i, .string s, .int .i64 n] w fun e w' => e = .returned (.bool (dAddB st i s n)) ∧ RViewAt w' R (dAdd st i s n) ∧ Turn (fun k => k = R.r ∨ k = R.m) w w' := by
  by_cases hc : (iVal st i).n 0 = 1 ∧ rightL s.data.toList = true ∧ thereE (s, n) = true ∧ placeE (dEnts st i) s < 0
  · exact radd_yes R st i s n hs hz w hV hc
  · have e : addAt st i s n = none := by unfold addAt; rw [if_neg hc]
    have e1 : dAdd st i s n = iSaw st i := by unfold dAdd; rw [e]
    have e2 : dAddB st i s n = false := by unfold dAddB; rw [e]
    rw [e1, e2]
    exact (radd_no R st i s n hs hz w hV hc).mono fun e w' ⟨a, b, c⟩ => ⟨a, b, rmaps c⟩
set_option maxRecDepth 100000 in
set_option maxHeartbeats 1000000 in
theorem rrem_any (R : RLay) (st : VSt) (i : Int) (s : ByteArray) (hs : s.size ≤ 1048576) (hz : (iVal st i).s.size ≤ 1048576) (w : World) (hV : RViewAt w R st) :
    Calls Tryz.prog 8 #[.pointer (some ⟨R.q, 0, none⟩), .int .i64 i, .string s] w fun e w' => e = .returned (.bool (dRemB st i s)) ∧ RViewAt w' R (dRem st i s) ∧ Turn (fun k => k = R.r ∨ k = R.m) w w' := by
  have h1 := rfind_any R st i s hs hz w hV
  have hk := fun W => refPack_any ⟨#[]⟩ 0 W (by decide)
  rw [show (ByteArray.mk #[]).data.toList = ([] : List UInt8) from rfl] at hk
  have hw := fun (o : Int) (W : World) (h : RViewAt W R (iSaw st i)) => rwrite_any R (iSaw st i) i o (bs (packL [] 0)) (by rw [iVal_iSaw]; omega) (by rw [bs_size, packL_len]; decide) W h
  simp only [iWrote_iSaw, iWrite_iSaw] at hw
  by_cases hc : placeE (dEnts st i) s < 0
  · have e1 : dRem st i s = iSaw st i := by unfold dRem; rw [if_pos hc]
    have e2 : dRemB st i s = false := by unfold dRemB; rw [if_pos hc]
    have e3 : fndB (dEnts st i) s = false := by unfold fndB; rw [decide_eq_true hc]; rfl
    rw [e1, e2]
    rw [e3] at h1
    generalize fndN (dEnts st i) s = N at *
    clear e1 e2 e3 hc hw hk hs hz
    go_enter Tryz.func8, Tryz.ntmps8
    go_wp2_with fail
    refine h1.mono ?_; rintro e W1 ⟨rfl, v1, t1⟩
    go_wp2_with fail
    go_ret
    exact ⟨rfl, v1, rmaps t1⟩
  · have hd : (iVal st i).n 0 = 1 := Classical.byContradiction fun q => hc (by rw [dEnts_no q, place_nil]; decide)
    have hr : rightL s.data.toList = true := Classical.byContradiction fun q => hc (by unfold placeE; rw [if_neg q]; decide)
    have h3 := fun (W : World) (h : RViewAt W R (iSaw st i)) => rslot_any R (iSaw st i) i s (by rw [iVal_iSaw]; exact hd) hs (by rw [iVal_iSaw]; exact hz) W h
    simp only [dEnts_iSaw, iSaw_iSaw] at h3
    have e1 : dRem st i s = iWrite st i (placeE (dEnts st i) s * 16) (bs (packL [] 0)) := by unfold dRem; rw [if_neg hc]
    have e2 : dRemB st i s = (iWrote st i (placeE (dEnts st i) s * 16) (bs (packL [] 0)) == 16) := by unfold dRemB; rw [if_neg hc]
    have e3 : fndB (dEnts st i) s = true := by unfold fndB; rw [decide_eq_false hc]; rfl
    have e4 : slotA (dEnts st i) s = placeE (dEnts st i) s * 16 := by unfold slotA; rw [slotI_place hr, if_neg hc]
    rw [e1, e2]
    rw [e3] at h1
    rw [e4] at h3
    generalize fndN (dEnts st i) s = N at *
    generalize slotN (dEnts st i) s = N2 at *
    generalize placeE (dEnts st i) s * 16 = o at *
    generalize bs (packL [] 0) = D at *
    clear e1 e2 e3 e4 hc hs hz hd hr
    go_enter Tryz.func8, Tryz.ntmps8
    go_wp2_with fail
    refine h1.mono ?_; rintro e W1 ⟨rfl, v1, t1⟩
    go_wp2_with fail
    refine (h3 _ v1).mono ?_; rintro e W3 ⟨rfl, v3, t3⟩
    have T3 := t1.trans t3
    clear h1 h3 v1 t1 t3
    go_wp2_with fail
    refine (hk _).mono ?_; rintro e W8 ⟨rfl, t8⟩
    have v8 := v3.below t8
    have T8 := T3.trans (Turn.of_below t8 _)
    clear hk v3 T3 t8
    go_wp2_with fail
    refine (hw _ _ v8).mono ?_; rintro e W9 ⟨rfl, v9, t9⟩
    go_wp2_with fail
    go_ret
    exact ⟨rfl, v9, (rmaps T8).trans t9⟩
end
end Go.Proofs.YtfcgkjbifnhjjaaGreat.St

namespace Go.Proofs.YtfcgkjbifnhjjaaGreat.St
open Go.RowKit
set_option linter.unusedVariables false
theorem Turn.then_below {S : Nat → Prop} {a b c : World} (h : Turn S a b) (k : Below a.heap.size b c) : Turn S a c :=
  ⟨k.os.trans h.os, k.tape.trans h.tape, k.output.trans h.output, Nat.le_trans h.size k.size, fun i hi hS => (k.block i hi).trans (h.block i hi hS)⟩
theorem Turn.of_below' {a b : World} {B : Nat} (k : Below B a b) : Turn (fun i => B ≤ i) a b :=
  ⟨k.os, k.tape, k.output, k.size, fun i hi hS => k.block i (by omega)⟩
section
attribute [local go_sem] cells_size cells_0 cells_1 cells_2 cells_16 cells_g0 cells_g1 cells_g2 cells_g16 cells_text run_field0 run_field1 run_index0
attribute [local irreducible] Int.lt Int.le
set_option maxRecDepth 100000 in
set_option maxHeartbeats 4000000 in
theorem rnames_any (R : RLay) (st : VSt) (d : Int) (hz : (iVal st d).s.size ≤ 1048576) (w : World) (hV : RViewAt w R st) :
    Calls Tryz.prog 16 #[.pointer (some ⟨R.q, 0, none⟩), .int .i64 d] w fun e w' => ∃ v, e = .returned v ∧ TL w.heap.size w' v (namesE (dEnts st d)) ∧ RViewAt w' R (iSaw st d) ∧ Turn (· = R.r) w w' := by
  have h1 := risdir_any R st d w hV
  by_cases hd : (iVal st d).n 0 = 1
  · rw [show ((iVal st d).n 0 == 1) = true from beq_iff_eq.2 hd] at h1
    obtain ⟨es', ev⟩ := has_val (has_dir hd)
    obtain ⟨hl, hat⟩ := dEnts_text hd
    have h8 := dEnts_len st d
    have hgk := fun (W : World) (h : RViewAt W R (iSaw st d)) => rvget_any R (iSaw st d) 10 d (by decide) W h
    simp only [es', saw_twice, get_saw', ← ev] at hgk
    simp only [← es'] at hgk
    obtain ⟨i0, hi, hz0, hz1, hz2⟩ := info_parts info_str
    have hlt := hV.lts
    clear es' ev hd hV
    generalize dEnts st d = es at *
    generalize iVal st d = x at *
    go_enter Tryz.func16, Tryz.ntmps16
    go_wp2_with fail
    refine h1.mono ?_; rintro e w0 ⟨rfl, v0, t0⟩
    clear h1
    go_wp2_with fail
    refine (rikey_any d _).mono ?_; rintro e w1 ⟨rfl, t1⟩
    have v1 := v0.below t1
    have T1 := t0.trans (Turn.of_below t1 _)
    clear v0 t0 t1
    go_wp2_with fail
    refine (hgk _ v1).mono ?_; rintro e w2 ⟨rfl, v2, t2⟩
    have T2 := T1.trans t2
    clear v1 T1 t2 hgk
    go_wp2_with fail
    go_loopw [5, 7] (fun out i wr => ∃ j k : Nat, j ≤ es.length ∧ k = 16 * j ∧ i = .int .i64 (k : Int) ∧ RViewAt wr R (iSaw st d) ∧ Turn (· = R.r) w wr ∧ TL w.heap.size wr out (namesE (es.take j))) (fun _ i _ => 128 - (intOf i).toNat)
    case atStart => exact ⟨0, 0, Nat.zero_le _, rfl, rfl, v2, T2, TL.nil _ _⟩
    case round =>
      obtain ⟨j, k, hj, hk, rfl, hv, T, own⟩ := hrel
      have k0 : (0 : Int) ≤ (k : Int) := by omega
      have kb : (k : Int) ≤ 128 := by omega
      by_cases hjl : j < es.length
      · have l1 : (k : Int) + 16 ≤ (x.s.size : Int) := by omega
        have l2 : (k : Int) < 128 := by omega
        have l3 : (k : Int) ≤ (k : Int) + 16 := by omega
        have hchunk : (x.s.extract k (k + 16)).data.toList = (x.s.data.toList.drop (16 * j)).take 16 := by rw [chunk_list, hk]
        have he : es[j] = (bs (unpL (x.s.extract k (k + 16)).data.toList), unpN (x.s.extract k (k + 16)).data.toList) := by rw [hchunk]; exact hat j hjl
        have hu := fun W => refUnpack_any (x.s.extract k (k + 16)) W (by rw [ByteArray.size_extract]; omega)
        have e2 := namesE_take es j hjl
        have nl : (namesE (es.take j)).length ≤ 8 := Nat.le_trans (namesE_len _) (by simp; omega)
        rw [he] at e2
        generalize bs (unpL (x.s.extract k (k + 16)).data.toList) = X at *
        generalize unpN (x.s.extract k (k + 16)).data.toList = N at *
        have HK := Lib.hid hk
        have hb := T.size
        have E2 := Lib.hid e2
        have nl' := Lib.hid nl
        clear he hchunk hat hk v2 T2 e2
        go_wp2_with fail
        refine (hu _).mono ?_; rintro e W1 ⟨rfl, t1⟩
        have hv' := hv.below t1
        have T' := T.trans (Turn.of_below t1 _)
        have own1 := own.below t1
        have hb1 := T'.size
        clear hv T t1 hu own
        rcases there_cases X N with ⟨c, g1, g2⟩ | ⟨c, g1⟩ | ⟨c, g1, g2⟩
        · have e3 := E2.out
          rw [c, if_pos rfl] at e3
          have E3 := Lib.hid e3
          clear e3 E2 c
          generalize namesE (es.take j) = done at *
          have O := own1
          unfold TL at O
          have lv := hv'.lts
          go_wp2_with (first
            | (at_builtin; refine wpList_append_own _ rfl _ _ 44 rfl w.heap.size 9 i0 (.string ByteArray.empty) 1 16 Tryz.underlying44 hi hz0 hz1 hz2 rfl (by decide) _ _ _ rfl (World.ownsRow.alloc O _) ⟨_, 0, none⟩ 1 1 [.string X] rfl rfl ?c1 ?c2 ?c3 ?c4 ?c5 ?_)
            | fail)
          case c1 =>
            intro j u hj
            match j, hj with
            | 0, hj => simp at hj; subst hj; simp [Addr.add]
          case c2 => intro u hu; simp at hu; subst hu; rfl
          case c3 => unfold maxLen; omega
          case c4 => omega
          case c5 => simp; omega
          intro v' W6 hown' hgrow _
          have RR := tl_push hb1 own1 hown' hgrow
          rw [← E3.out] at RR
          have O6 := Lib.hid RR.1
          have v6 := hv'.keep (Turn.of_below' RR.2) (fun i q => by omega)
          have T6 := T'.then_below RR.2
          clear hown' hgrow O own1 RR E3 hv' T' lv
          go_wp2_with fail
          exact ⟨⟨j + 1, k + 16, by omega, by rw [HK.out]; omega, by go_num, v6, T6, O6.out⟩, by simp [intOf]; omega⟩
        all_goals
          have e3 := E2.out
          rw [c, if_neg (by simp), List.append_nil] at e3
          rw [← e3] at own1
          have O := Lib.hid own1
          clear e3 E2 c own1
          go_wp2_with fail
          exact ⟨⟨j + 1, k + 16, by omega, by rw [HK.out]; omega, by go_num, hv', T', O.out⟩, by simp [intOf]; omega⟩
      · obtain rfl : j = es.length := by omega
        rw [List.take_length] at own
        have O := Lib.hid own
        have hg : decide ((k : Int) + 16 ≤ (x.s.size : Int)) = false ∨ decide ((k : Int) + 16 ≤ (x.s.size : Int)) = true ∧ decide ((k : Int) < 128) = false := by
          simp only [decide_eq_false_iff_not, decide_eq_true_eq]; omega
        clear own hat hl hz h8 hk v2 T2
        rcases hg with g1 | ⟨g1, g2⟩
        all_goals
          go_wp2_with fail
          go_ret
          exact ⟨_, rfl, O.out, hv, T⟩
  · rw [show ((iVal st d).n 0 == 1) = false from beq_eq_false_iff_ne.2 hd] at h1
    rw [dEnts_no hd, show namesE [] = [] from rfl]
    clear hd hz
    go_enter Tryz.func16, Tryz.ntmps16
    go_wp2_with fail
    refine h1.mono ?_; rintro e W1 ⟨rfl, v1, t1⟩
    clear h1
    go_wp2_with fail
    go_ret
    exact ⟨_, rfl, TL.nil _ _, v1, t1⟩
set_option maxRecDepth 100000 in
set_option maxHeartbeats 4000000 in
theorem rbare_any (R : RLay) (st : VSt) (d : Int) (hz : (iVal st d).s.size ≤ 1048576) (w : World) (hV : RViewAt w R st) :
    Calls Tryz.prog 18 #[.pointer (some ⟨R.q, 0, none⟩), .int .i64 d] w fun e w' => e = .returned (.bool (bareE (dEnts st d))) ∧ RViewAt w' R (iSaw st d) ∧ Turn (· = R.r) w w' := by
  have h1 := rnames_any R st d hz w hV
  have hl := Nat.le_trans (namesE_len (dEnts st d)) (dEnts_len st d)
  unfold bareE
  generalize namesE (dEnts st d) = ps at *
  clear hz hV
  go_enter Tryz.func18, Tryz.ntmps18
  go_wp2_with fail
  refine h1.mono ?_; rintro e W1 ⟨v, rfl, own, v1, t1⟩
  obtain ⟨a, c, rfl, tr, _⟩ := own.tr
  clear h1 own
  go_wp2_with fail
  go_loopw [11] (fun i wr => ∃ j : Nat, j ≤ ps.length ∧ i = .int .i64 (j : Int) ∧ wr = W1 ∧ (∀ t (ht : t < ps.length), t < j → ownName ps[t] = false)) (fun i _ => ps.length - (intOf i).toNat)
  case atStart => exact ⟨0, Nat.zero_le _, rfl, rfl, fun t _ ht => absurd ht (by omega)⟩
  case round =>
    obtain ⟨j, hj, rfl, rfl, hne⟩ := hrel
    by_cases hlt : j < ps.length
    · have l1 : (j : Int) < (ps.length : Int) := by omega
      have l0 : (0 : Int) ≤ (j : Int) := by omega
      obtain ⟨x, rfl, x0⟩ := tr j hlt
      have hne2 : ownName ps[j] = false → ∀ t (ht : t < ps.length), t < j + 1 → ownName ps[t] = false := fun hv t ht h2 => by
        by_cases q : t = j
        · subst q; exact hv
        · exact hne t ht (by omega)
      have hyes : ownName ps[j] = true → (!ps.any ownName) = false := fun hv => by
        rw [List.any_eq_true.2 ⟨_, List.getElem_mem hlt, hv⟩]; rfl
      have Hne := Lib.hid hne2
      have Hy := Lib.hid hyes
      have HT := Lib.hid tr
      clear tr hne hne2 hyes
      generalize ps[j] = p at *
      by_cases c1 : p = ⟨#[46]⟩
      · have M := Lib.hid (Hne.out (by unfold ownName; rw [decide_eq_true c1]; rfl))
        subst c1
        clear Hne Hy
        go_wp2_with fail
        exact ⟨⟨j + 1, by omega, by go_num, trivial, M.out⟩, by simp [intOf]; omega⟩
      · by_cases c2 : p = ⟨#[46, 46]⟩
        · have M := Lib.hid (Hne.out (by unfold ownName; rw [decide_eq_true c2]; simp))
          subst c2
          clear Hne Hy c1
          go_wp2_with fail
          exact ⟨⟨j + 1, by omega, by go_num, trivial, M.out⟩, by simp [intOf]; omega⟩
        · have hy := Lib.hid (Hy.out (by unfold ownName; rw [decide_eq_false c1, decide_eq_false c2]; rfl))
          have h1 := str_dec p ⟨#[46]⟩
          have h2 := str_dec p ⟨#[46, 46]⟩
          rw [decide_eq_false c1] at h1
          rw [decide_eq_false c2] at h2
          rw [show (ByteArray.mk #[46]).toList = [46] by rw [ByteArray.toList_eq]] at h1
          rw [show (ByteArray.mk #[46, 46]).toList = [46, 46] by rw [ByteArray.toList_eq]] at h2
          have h3 : ¬ p.toList = [46] := beq_eq_false_iff_ne.1 h1
          have h4 : ¬ p.toList = [46, 46] := beq_eq_false_iff_ne.1 h2
          clear Hne Hy c1 c2
          go_wp2_with fail
          go_ret
          exact ⟨ret_bool hy.out.symm, v1, t1⟩
    · obtain rfl : j = ps.length := by omega
      have hy : (!ps.any ownName) = true := by
        cases e : ps.any ownName with
        | false => rfl
        | true =>
          obtain ⟨p, hp, q⟩ := List.any_eq_true.1 e
          obtain ⟨t, ht, rfl⟩ := List.mem_iff_getElem.1 hp
          rw [hne t ht ht] at q; cases q
      have Hy := Lib.hid hy
      clear tr hne hy
      go_wp2_with fail
      go_ret
      exact ⟨ret_bool Hy.out.symm, v1, t1⟩
end
end Go.Proofs.YtfcgkjbifnhjjaaGreat.St
