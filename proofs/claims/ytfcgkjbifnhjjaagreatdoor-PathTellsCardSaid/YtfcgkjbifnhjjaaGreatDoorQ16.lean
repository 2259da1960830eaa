/- The contracts of the document's own directories (IsDir, slot) over its own view. The contracts of the document's own directories (Find, Add, Remove) over its own view. The contracts of the document's own paths (Walk, Parent) over its own view. For texts of at most 500000 bytes. No condition but those written in each statement. -/
import Derived.Test.YtfcgkjbifnhjjaaGreatDoorQ11
import Derived.Test.YtfcgkjbifnhjjaaGreatDoorQ15
namespace Go.Proofs.YtfcgkjbifnhjjaaGreatDoor.St
open Go.RowKit
set_option linter.unusedVariables false
/-- The place of the entry that slot tells: by an empty name a free one. -/
def slotI (es : List Ent) (s : ByteArray) : Int := if s.size = 0 then findI (fun e => !thereE e) es else findI (bearsE s) es
def slotA (es : List Ent) (s : ByteArray) : Int := if slotI es s < 0 then -1 else slotI es s * 16
def slotN (es : List Ent) (s : ByteArray) : Int := if slotI es s < 0 then 0 else (es.getD (slotI es s).toNat (⟨#[]⟩, 0)).2
/-- The entries of a directory, one by one. -/
theorem dEnts_text {st : VSt} {i : Int} (hd : (iVal st i).n 0 = 1) :
    (dEnts st i).length = min (iVal st i).s.size 128 / 16 ∧ ∀ j (h : j < (dEnts st i).length), (dEnts st i)[j] = entE (((iVal st i).s.data.toList.drop (16 * j)).take 16) := by
  have e : iRead st i 0 128 = bs ((iVal st i).s.data.toList.take 128) := by
    unfold iRead
    split
    · have h0 : (iVal st i).s.size = 0 := by omega
      have : (iVal st i).s.data.toList = [] := by
        apply List.length_eq_zero_iff.1; rw [size_list]; exact h0
      rw [this]; rfl
    · have hl := size_list (iVal st i).s
      rw [show Int.toNat 0 = 0 from rfl, ← bs_list (iVal st i).s, bs_take, list_bs]
      congr 1
      rw [bs_size, hl]
      by_cases c : (iVal st i).s.size ≤ 128
      · rw [List.take_of_length_le (by omega), List.take_of_length_le (by omega)]
      · congr 1; omega
  have hl := size_list (iVal st i).s
  have hes : dEnts st i = entsL ((iVal st i).s.data.toList.take 128) := by
    unfold dEnts; rw [if_pos hd, e, list_bs]
  refine ⟨by rw [hes, entsL_len, List.length_take, hl, Nat.min_comm], fun j h => ?_⟩
  have h' : j < (entsL ((iVal st i).s.data.toList.take 128)).length := by rw [← hes]; exact h
  have hj : j < ((iVal st i).s.data.toList.take 128).length / 16 := by rw [← entsL_len]; exact h'
  have := entsL_at _ j hj
  rw [List.getElem?_eq_getElem h'] at this
  injection this with this
  have e2 : (dEnts st i)[j] = (entsL ((iVal st i).s.data.toList.take 128))[j] := by simp only [hes]
  rw [e2, this]
  unfold entAt
  congr 1
  rw [List.length_take] at hj
  rw [List.drop_take, List.take_take]
  congr 1
  omega
theorem has_ne' (st : VSt) (i : Int) : ((iVal st i).n 0 != 0) = iHas st i := by
  unfold iVal iHas iValIn
  split
  · rfl
  · by_cases e : (st.get 10 i).n 0 = 0
    · rw [if_pos e, e]; rfl
    · rw [if_neg e]; rfl
theorem has_dir {st : VSt} {i : Int} (hd : (iVal st i).n 0 = 1) : iHas st i = true := by
  rw [← has_ne' st i, hd]; rfl
attribute [local go_sem] blk_alloc_at blk_alloc_past blk_drew blk_drewN blk_setB_same blk_setB_other blk_setRow_other setRow_alloc_at setRow_alloc_past setRow_drewN setRow_drew setB_size setB_cell setB_frozen setB_alloc_past setB_drewN setB_drew run_loadV loadOr_cells run_storeV storeOr_cells cells_size ones_cells cells_0 cells_1 cells_2 cells_16 cells_g0 cells_g1 cells_g2 cells_g16 cells_set0 cells_set1 cells_set2 cells_text run_field0 run_field1 run_index0
attribute [local go_sem ↓] execOp_loadV execOp_storeV
attribute [local irreducible] Int.lt Int.le
set_option maxRecDepth 100000 in
set_option maxHeartbeats 1000000 in
theorem risdir_any (R : RLay) (st : VSt) (i : Int) (w : World) (hV : RViewAt w R st) :
    Calls Tryz.prog 63 #[.pointer (some ⟨R.q, 0, none⟩), .int .i64 i] w fun e w' => e = .returned (.bool ((iVal st i).n 0 == 1)) ∧ RViewAt w' R (iSaw st i) ∧ Turn (· = R.r) w w' := by
  cases hh : iHas st i with
  | false =>
    have ev := val_none hh
    have e0 : ((iVal st i).n 0 == 1) = false := by rw [ev]; rfl
    rw [e0]
    clear ev e0
    go_enter Tryz.func63, Tryz.ntmps63
    go_wp2_with fail
    refine (ris_any R st i _ hV).mono ?_; rintro e w1 ⟨rfl, hv1, t1⟩
    go_wp2_with fail
    go_ret
    exact ⟨rfl, hv1, t1⟩
  | true =>
    obtain ⟨es, ev⟩ := has_val hh
    have HS := Lib.hid es
    have HV := Lib.hid ev
    clear es ev
    go_enter Tryz.func63, Tryz.ntmps63
    go_wp2_with fail
    refine (ris_any R st i _ hV).mono ?_; rintro e w1 ⟨rfl, hv1, t1⟩
    rw [HS.out] at hv1
    go_wp2_with fail
    refine (rikey_any i _).mono ?_; rintro e w2 ⟨rfl, t2⟩
    have hv2 := hv1.below t2
    have T2 := t1.trans (Turn.of_below t2 _)
    clear hv1 t1 t2 hV
    go_wp2_with fail
    refine (rvget_any R _ 10 i (by decide) _ hv2).mono ?_; rintro e w3 ⟨rfl, hv3, t3⟩
    rw [saw_twice] at hv3
    rw [get_saw']
    have T3 := T2.trans t3
    generalize hx : st.get 10 i = x at *
    clear hv2 T2 t3
    go_wp2_with fail
    go_ret
    exact ⟨by rw [HV.out]; rfl, by rw [HS.out]; exact hv3, T3⟩
/-- What slot looks for: a name's entry, or a free one. -/
def hitE (s : ByteArray) (e : Ent) : Bool := if s.size = 0 then !thereE e else bearsE s e
theorem slotI_hit (es : List Ent) (s : ByteArray) : slotI es s = findI (hitE s) es := by
  unfold slotI hitE
  by_cases h : s.size = 0
  · simp only [if_pos h]
  · simp only [if_neg h]
theorem chunk_list (s : ByteArray) (a : Nat) : (s.extract a (a + 16)).data.toList = (s.data.toList.drop a).take 16 := by
  simp [ByteArray.data_extract, Array.toList_extract, List.extract_eq_take_drop]
theorem hitE_nil (e : Ent) : hitE ⟨#[]⟩ e = !thereE e := by unfold hitE; exact if_pos rfl
theorem slot_none {es : List Ent} {s : ByteArray} (h : ∀ t (ht : t < es.length), hitE s es[t] = false) : slotA es s = -1 ∧ slotN es s = 0 := by
  have e : slotI es s = -1 := by rw [slotI_hit]; exact findI_miss h
  unfold slotA slotN
  rw [e]; exact ⟨rfl, rfl⟩
theorem slot_some {es : List Ent} {s : ByteArray} {j : Nat} (hj : j < es.length) (h : ∀ t (ht : t < es.length), t < j → hitE s es[t] = false) (hb : hitE s es[j] = true) : slotA es s = ((16 * j : Nat) : Int) ∧ slotN es s = es[j].2 := by
  have e : slotI es s = j := by rw [slotI_hit]; exact findI_hit hj hb h
  unfold slotA slotN
  rw [e, if_neg (by omega), if_neg (by omega)]
  refine ⟨by omega, ?_⟩
  rw [Int.toNat_natCast, List.getD, List.getElem?_eq_getElem hj]; rfl
theorem there_cases (x : ByteArray) (n : Int) : (thereE (x, n) = true ∧ decide (1 ≤ n) = true ∧ decide (n < 16) = true) ∨ (thereE (x, n) = false ∧ decide (1 ≤ n) = false) ∨ (thereE (x, n) = false ∧ decide (1 ≤ n) = true ∧ decide (n < 16) = false) := by
  unfold thereE
  dsimp only
  cases h1 : decide (1 ≤ n) <;> cases h2 : decide (n < 16) <;> simp
set_option maxRecDepth 100000 in
set_option maxHeartbeats 4000000 in
theorem rslot_any (R : RLay) (st : VSt) (d : Int) (s : ByteArray) (hd : (iVal st d).n 0 = 1) (hs : s.size ≤ 1048576) (hz : (iVal st d).s.size ≤ 1048576) (w : World) (hV : RViewAt w R st) :
    Calls Tryz.prog 92 #[.pointer (some ⟨R.q, 0, none⟩), .int .i64 d, .string s] w fun e w' => e = .returned (.tuple #[.int .i64 (slotA (dEnts st d) s), .int .i64 (slotN (dEnts st d) s)]) ∧ RViewAt w' R (iSaw st d) ∧ Turn (· = R.r) w w' := by
  obtain ⟨es', ev⟩ := has_val (has_dir hd)
  obtain ⟨hl, hat⟩ := dEnts_text hd
  have h8 := dEnts_len st d
  rw [ev] at hl hat hz
  have HS := Lib.hid es'
  clear es' ev hd
  generalize dEnts st d = es at *
  go_enter Tryz.func92, Tryz.ntmps92
  go_wp2_with fail
  refine (rikey_any d _).mono ?_; rintro e w1 ⟨rfl, t1⟩
  have hv1 := hV.below t1
  have T1 := Turn.of_below t1 (· = R.r)
  clear hV t1
  go_wp2_with fail
  refine (rvget_any R _ 10 d (by decide) _ hv1).mono ?_; rintro e w2 ⟨rfl, hv2, t2⟩
  have T2 := T1.trans t2
  rw [← HS.out] at hv2
  generalize st.get 10 d = x at *
  clear hv1 T1 t2
  go_wp2_with fail
  go_loopw [9] (fun i wr => ∃ j k : Nat, j ≤ es.length ∧ k = 16 * j ∧ i = .int .i64 (k : Int) ∧ RViewAt wr R (iSaw st d) ∧ Turn (· = R.r) w wr ∧ ∀ t (ht : t < es.length), t < j → hitE s es[t] = false) (fun i _ => 128 - (intOf i).toNat)
  case atStart => exact ⟨0, 0, Nat.zero_le _, rfl, rfl, hv2, T2, fun t _ ht => absurd ht (by omega)⟩
  case round =>
    obtain ⟨j, k, hj, hk, rfl, hv, T, hne⟩ := hrel
    have k0 : (0 : Int) ≤ (k : Int) := by omega
    have kb : (k : Int) ≤ 128 := by omega
    by_cases hlt : j < es.length
    · have l1 : (k : Int) + 16 ≤ (x.s.size : Int) := by omega
      have l2 : (k : Int) < 128 := by omega
      have l3 : (k : Int) ≤ (k : Int) + 16 := by omega
      have hchunk : (x.s.extract k (k + 16)).data.toList = (x.s.data.toList.drop (16 * j)).take 16 := by rw [chunk_list, hk]
      have he : es[j] = (bs (unpL (x.s.extract k (k + 16)).data.toList), unpN (x.s.extract k (k + 16)).data.toList) := by rw [hchunk]; exact hat j hlt
      have hu := fun W => refUnpack_any (x.s.extract k (k + 16)) W (by rw [ByteArray.size_extract]; omega)
      have hmiss : hitE s es[j] = false → ∀ t (ht : t < es.length), t < j + 1 → hitE s es[t] = false := fun hm t ht h2 => by
        by_cases q : t = j
        · subst q; exact hm
        · exact hne t ht (by omega)
      have hhit : hitE s es[j] = true → slotA es s = (k : Int) ∧ slotN es s = es[j].2 := fun hm => by rw [hk]; exact slot_some hlt hne hm
      rw [he] at hmiss hhit
      generalize bs (unpL (x.s.extract k (k + 16)).data.toList) = X at *
      generalize unpN (x.s.extract k (k + 16)).data.toList = N at *
      have HM := Lib.hid hmiss
      have HH := Lib.hid hhit
      have HK := Lib.hid hk
      clear hk he hchunk hat hne hmiss hhit hv2 T2
      go_wp2_with fail
      refine (hu _).mono ?_; rintro e W1 ⟨rfl, t1⟩
      have hv' := hv.below t1
      have T' := T.trans (Turn.of_below t1 _)
      clear hv T t1 hu
      by_cases hs0 : s.size = 0
      · obtain rfl := empty_toList hs0
        clear hs hs0
        rcases there_cases X N with ⟨c, g1, g2⟩ | ⟨c, g1⟩ | ⟨c, g1, g2⟩
        · have M := Lib.hid (HM.out (by rw [hitE_nil, c]; rfl))
          clear HM HH c
          by_cases hx : X.size = 0
          · obtain rfl := empty_toList hx
            clear hx
            go_wp2_with fail
            exact ⟨⟨j + 1, k + 16, by omega, by rw [HK.out]; omega, by go_num, hv', T', M.out⟩, by simp [intOf]; omega⟩
          · have x1 := str_toList_ne (Nat.pos_of_ne_zero hx)
            have x2 := str_some X (Nat.pos_of_ne_zero hx)
            clear hx
            go_wp2_with fail
            exact ⟨⟨j + 1, k + 16, by omega, by rw [HK.out]; omega, by go_num, hv', T', M.out⟩, by simp [intOf]; omega⟩
        · obtain ⟨a1, a2⟩ := HH.out (by rw [hitE_nil, c]; rfl)
          have A1 := Lib.hid a1
          have A2 := Lib.hid a2
          clear HM HH c a1 a2
          go_wp2_with fail
          go_ret2
          exact ⟨by rw [A1.out, A2.out] <;> rfl, hv', T'⟩
        · obtain ⟨a1, a2⟩ := HH.out (by rw [hitE_nil, c]; rfl)
          have A1 := Lib.hid a1
          have A2 := Lib.hid a2
          clear HM HH c a1 a2
          go_wp2_with fail
          go_ret2
          exact ⟨by rw [A1.out, A2.out] <;> rfl, hv', T'⟩
      · have s1 := str_toList_ne (Nat.pos_of_ne_zero hs0)
        have s2 := str_some s (Nat.pos_of_ne_zero hs0)
        have hb : hitE s (X, N) = (thereE (X, N) && decide (X = s)) := by unfold hitE; rw [if_neg hs0]; rfl
        rw [hb] at HM HH
        clear hb hs hs0
        rcases there_cases X N with ⟨c, g1, g2⟩ | ⟨c, g1⟩ | ⟨c, g1, g2⟩
        · by_cases hx : X = s
          · subst hx
            obtain ⟨a1, a2⟩ := HH.out (by rw [c]; simp)
            have A1 := Lib.hid a1
            have A2 := Lib.hid a2
            clear HM HH c a1 a2
            go_wp2_with fail
            go_ret2
            exact ⟨by rw [A1.out, A2.out] <;> rfl, hv', T'⟩
          · have M := Lib.hid (HM.out (by rw [c, decide_eq_false hx]; rfl))
            have x1 := str_dec X s
            rw [decide_eq_false hx] at x1
            have x2 : ¬ X.toList = s.toList := beq_eq_false_iff_ne.1 x1
            clear HM HH c hx
            go_wp2_with fail
            exact ⟨⟨j + 1, k + 16, by omega, by rw [HK.out]; omega, by go_num, hv', T', M.out⟩, by simp [intOf]; omega⟩
        · have M := Lib.hid (HM.out (by rw [c]; rfl))
          clear HM HH c
          go_wp2_with fail
          exact ⟨⟨j + 1, k + 16, by omega, by rw [HK.out]; omega, by go_num, hv', T', M.out⟩, by simp [intOf]; omega⟩
        · have M := Lib.hid (HM.out (by rw [c]; rfl))
          clear HM HH c
          go_wp2_with fail
          exact ⟨⟨j + 1, k + 16, by omega, by rw [HK.out]; omega, by go_num, hv', T', M.out⟩, by simp [intOf]; omega⟩
    · obtain rfl : j = es.length := by omega
      obtain ⟨a1, a2⟩ := slot_none (s := s) (fun t ht => hne t ht ht)
      have A1 := Lib.hid a1
      have A2 := Lib.hid a2
      have hg : decide ((k : Int) + 16 ≤ (x.s.size : Int)) = false ∨ decide ((k : Int) + 16 ≤ (x.s.size : Int)) = true ∧ decide ((k : Int) < 128) = false := by
        simp only [decide_eq_false_iff_not, decide_eq_true_eq]; omega
      clear a1 a2 hne hat hl hz h8 hs hk
      rcases hg with g1 | ⟨g1, g2⟩
      all_goals
        go_wp2_with fail
        go_ret2
        exact ⟨by rw [A1.out, A2.out] <;> rfl, hv, T⟩
end Go.Proofs.YtfcgkjbifnhjjaaGreatDoor.St

namespace Go.Proofs.YtfcgkjbifnhjjaaGreatDoor.St
open Go.RowKit
set_option linter.unusedVariables false
theorem right_size {s : ByteArray} (h : rightL s.data.toList = true) : ¬ s.size = 0 := fun e => by
  rw [show s = ⟨#[]⟩ from empty_toList e] at h
  cases h
theorem slotI_place {es : List Ent} {s : ByteArray} (h : rightL s.data.toList = true) : slotI es s = placeE es s := by
  unfold slotI placeE
  rw [if_pos h, if_neg (right_size h)]
theorem slotI_free (es : List Ent) : slotI es ⟨#[]⟩ = findI (fun e => !thereE e) es := by
  unfold slotI; exact if_pos rfl
theorem slotI_ge (es : List Ent) (s : ByteArray) : -1 ≤ slotI es s := by
  rw [slotI_hit]
  rcases findI_cases (hitE s) es with ⟨e, _⟩ | ⟨j, _, e, _⟩ <;> omega
theorem slotA_neg {es : List Ent} {s : ByteArray} : decide (0 ≤ slotA es s) = !decide (slotI es s < 0) := by
  unfold slotA
  split
  · rename_i h; rw [decide_eq_true h]; rfl
  · rename_i h; rw [decide_eq_false h]; exact decide_eq_true (by omega)
theorem ret_two (a b : Int) (x y : Bool) (h : a = b) (g : x = y) : Ending.returned (.tuple #[.int .i64 a, .bool x]) = Ending.returned (.tuple #[.int .i64 b, .bool y]) := by rw [h, g]
theorem dEnts_no {st : VSt} {i : Int} (h : ¬ (iVal st i).n 0 = 1) : dEnts st i = [] := by unfold dEnts; rw [if_neg h]
theorem place_nil (s : ByteArray) : placeE [] s = -1 := by unfold placeE; split <;> rfl
theorem there_range' {s : ByteArray} {n : Int} (h : thereE (s, n) = true) : 1 ≤ n ∧ n < 16 := by
  unfold thereE at h; simpa using h
section
attribute [local go_sem] cells_size cells_0 cells_1 cells_2 cells_16 cells_g0 cells_g1 cells_g2 cells_g16 cells_text run_field0 run_field1 run_index0
attribute [local irreducible] Int.lt Int.le
set_option maxRecDepth 100000 in
set_option maxHeartbeats 1000000 in
theorem rfind_any (R : RLay) (st : VSt) (i : Int) (s : ByteArray) (hs : s.size ≤ 1048576) (hz : (iVal st i).s.size ≤ 1048576) (w : World) (hV : RViewAt w R st) :
    Calls Tryz.prog 59 #[.pointer (some ⟨R.q, 0, none⟩), .int .i64 i, .string s] w fun e w' => e = .returned (.tuple #[.int .i64 (fndN (dEnts st i) s), .bool (fndB (dEnts st i) s)]) ∧ RViewAt w' R (iSaw st i) ∧ Turn (· = R.r) w w' := by
  have h1 := risdir_any R st i w hV
  have h2 := fun W => refRight_any s W hs
  have h3 := fun (hd : (iVal st i).n 0 = 1) (W : World) (h : RViewAt W R (iSaw st i)) => rslot_any R (iSaw st i) i s (by rw [iVal_iSaw]; exact hd) hs (by rw [iVal_iSaw]; exact hz) W h
  simp only [dEnts_iSaw, iSaw_iSaw] at h3
  have no : placeE (dEnts st i) s < 0 → fndN (dEnts st i) s = 0 ∧ fndB (dEnts st i) s = false := by
    intro q; unfold fndN fndB; rw [if_pos q, decide_eq_true q]; exact ⟨rfl, rfl⟩
  by_cases hd : (iVal st i).n 0 = 1
  · rw [show ((iVal st i).n 0 == 1) = true from beq_iff_eq.2 hd] at h1
    have h4 := h3 hd
    by_cases hr : rightL s.data.toList = true
    · rw [hr] at h2
      have e1 : fndN (dEnts st i) s = slotN (dEnts st i) s := by unfold fndN slotN; rw [slotI_place hr]
      have e2 : fndB (dEnts st i) s = decide (0 ≤ slotA (dEnts st i) s) := by unfold fndB; rw [slotA_neg, slotI_place hr]
      rw [e1, e2]
      generalize slotN (dEnts st i) s = N at *
      generalize slotA (dEnts st i) s = A at *
      clear e1 e2 no hr h3 hd hs hz
      go_enter Tryz.func59, Tryz.ntmps59
      go_wp2_with fail
      refine h1.mono ?_; rintro e W1 ⟨rfl, v1, t1⟩
      clear h1
      go_wp2_with fail
      refine (h2 _).mono ?_; rintro e W2 ⟨rfl, rfl⟩
      go_wp2_with fail
      refine (h4 _ v1).mono ?_; rintro e W3 ⟨rfl, v3, t3⟩
      go_wp2_with fail
      go_ret2
      exact ⟨rfl, v3, t1.trans t3⟩
    · rw [show rightL s.data.toList = false by simpa using hr] at h2
      obtain ⟨e1, e2⟩ := no (by unfold placeE; rw [if_neg hr]; decide)
      rw [e1, e2]
      clear e1 e2 no hr h3 h4 hd hs hz
      go_enter Tryz.func59, Tryz.ntmps59
      go_wp2_with fail
      refine h1.mono ?_; rintro e W1 ⟨rfl, v1, t1⟩
      clear h1
      go_wp2_with fail
      refine (h2 _).mono ?_; rintro e W2 ⟨rfl, rfl⟩
      go_wp2_with fail
      go_ret2
      exact ⟨rfl, v1, t1⟩
  · rw [show ((iVal st i).n 0 == 1) = false from beq_eq_false_iff_ne.2 hd] at h1
    obtain ⟨e1, e2⟩ := no (by rw [dEnts_no hd, place_nil]; decide)
    rw [e1, e2]
    clear e1 e2 no h3 hd hs hz h2
    go_enter Tryz.func59, Tryz.ntmps59
    go_wp2_with fail
    refine h1.mono ?_; rintro e W1 ⟨rfl, v1, t1⟩
    clear h1
    go_wp2_with fail
    go_ret2
    exact ⟨rfl, v1, t1⟩
end
end Go.Proofs.YtfcgkjbifnhjjaaGreatDoor.St

namespace Go.Proofs.YtfcgkjbifnhjjaaGreatDoor.St
open Go.RowKit
set_option linter.unusedVariables false
theorem TR.turnR {W W' : World} {R : RLay} {st : VSt} {a : Option Addr} {ps : List ByteArray} (h : TR W a ps) (hV : RViewAt W R st) (hT : Turn (· = R.r) W W') : TR W' a ps := fun i hi => by
  obtain ⟨x, e, c⟩ := h i hi
  have hlt := World.block_lt_of_cell? _ _ c
  obtain ⟨_, _, hr, _⟩ := hV.cr
  have hne : ¬((x.add i).block = R.r) := by
    intro q
    have hr' : W.heap[R.r]? = _ := hr
    unfold World.cell? at c; rw [q, hr'] at c; simp at c
  refine ⟨x, e, ?_⟩
  rw [World.cell?_of_block (hT.block (x.add i).block (by simpa using hlt) hne)]
  exact c
/-- What one step of a walk tells. -/
theorem walk_round {st : VSt} {x : Int} {s : ByteArray} {l : List ByteArray} {R : Option Int} {V : VSt} (hR : walkE st x (s :: l) = R) (hV : wsawE st x (s :: l) = V) :
    (fndB (dEnts st x) s = false ∧ R = none ∧ V = iSaw st x) ∨ (fndB (dEnts st x) s = true ∧ iHas st (fndN (dEnts st x) s) = false ∧ R = none ∧ V = iSaw (iSaw st x) (fndN (dEnts st x) s)) ∨
    (fndB (dEnts st x) s = true ∧ iHas st (fndN (dEnts st x) s) = true ∧ walkE (iSaw (iSaw st x) (fndN (dEnts st x) s)) (fndN (dEnts st x) s) l = R ∧ wsawE (iSaw (iSaw st x) (fndN (dEnts st x) s)) (fndN (dEnts st x) s) l = V) := by
  rw [walkE] at hR
  rw [wsawE] at hV
  cases hb : fndB (dEnts st x) s with
  | false =>
    rw [hb] at hR hV
    rw [if_neg (by simp)] at hR hV
    exact Or.inl ⟨rfl, hR.symm, hV.symm⟩
  | true =>
    rw [hb] at hR hV
    cases hh : iHas st (fndN (dEnts st x) s) with
    | false =>
      rw [hh] at hR hV
      rw [if_neg (by simp)] at hR
      rw [if_pos rfl, if_neg (by simp)] at hV
      exact Or.inr (Or.inl ⟨rfl, rfl, hR.symm, hV.symm⟩)
    | true =>
      rw [hh] at hR hV
      rw [if_pos ⟨rfl, rfl⟩] at hR
      rw [if_pos rfl, if_pos rfl] at hV
      exact Or.inr (Or.inr ⟨rfl, rfl, by rw [walkE_same (st := st) (fun k n => by rw [get_iSaw, get_iSaw])]; exact hR, hV⟩)
/-- Each object's text is small. -/
def Sn (st : VSt) : Prop := ∀ i, (iVal st i).s.size ≤ 1048576
theorem sn_val {st : VSt} (h : Sn st) (i : Int) : (iVal st i).s.size ≤ 1048576 := h i
theorem sn_saw {st : VSt} (h : Sn st) (i : Int) : Sn (iSaw st i) := fun j => by rw [iVal_iSaw]; exact h j
attribute [local irreducible] Int.lt Int.le
set_option maxRecDepth 100000 in
set_option maxHeartbeats 4000000 in
theorem rwalk_any (R : RLay) (st : VSt) (hS : Sn st) (cwd : Int) (s : ByteArray) (hs : s.size ≤ 500000) (w : World) (hV : RViewAt w R st) :
    Calls Tryz.prog 18 #[.pointer (some ⟨R.q, 0, none⟩), .int .i64 cwd, .string s] w fun e W' => e = .returned (.tuple #[.int .i64 ((pWalk st cwd s).getD 0), .bool (pWalk st cwd s).isSome]) ∧ RViewAt W' R (pWalkV st cwd s) ∧ Turn (· = R.r) w W' := by
  have hsp := refSplit_any s w (by omega)
  have hz := splN_size s (by omega)
  have hl := splN_len s
  unfold pWalk pWalkV
  cases hk : splOk s.data.toList with
  | false =>
    rw [if_neg (by simp), if_neg (by simp)]
    rw [hk] at hsp
    generalize splB s.data.toList = b at *
    generalize splN s.data.toList = ps at *
    clear hk hz
    go_enter Tryz.func18, Tryz.ntmps18
    go_wp2_with fail
    refine hsp.mono ?_; rintro e W1 ⟨v, rfl, own, b1⟩
    go_wp2_with fail
    go_ret2
    exact ⟨rfl, hV.below b1, Turn.of_below b1 _⟩
  | true =>
    rw [if_pos rfl, if_pos rfl]
    rw [hk] at hsp
    obtain ⟨x0, hx0⟩ : ∃ x0, x0 = (if splB s.data.toList = true then (1 : Int) else cwd) := ⟨_, rfl⟩
    rw [← hx0]
    generalize splB s.data.toList = b at *
    generalize splN s.data.toList = ps at *
    have hps : ps.length ≤ 500001 := by omega
    clear hk hl hs
    have start : ∀ (W1 : World), RViewAt W1 R st → Calls Tryz.prog 58 #[.pointer (some ⟨R.q, 0, none⟩), .int .i64 x0] W1 fun e w' => e = .returned (.bool (iHas st x0)) ∧ RViewAt w' R (iSaw st x0) ∧ Turn (· = R.r) W1 w' := fun W1 h => ris_any R st x0 W1 h
    cases hh : iHas st x0 with
    | false =>
      have e1 : walkO st x0 ps = none := by unfold walkO; rw [hh]; rfl
      have e2 : wsawO st x0 ps = iSaw st x0 := by unfold wsawO; rw [hh]; rfl
      rw [e1, e2]
      rw [hh] at start
      clear e1 e2 hh hz
      cases b with
      | true =>
        obtain rfl : x0 = 1 := hx0
        go_enter Tryz.func18, Tryz.ntmps18
        go_wp2_with fail
        refine hsp.mono ?_; rintro e W1 ⟨v, rfl, own, b1⟩
        have v1 := hV.below b1
        go_wp2_with fail
        refine (start _ v1).mono ?_; rintro e W2 ⟨rfl, v2, t2⟩
        go_wp2_with fail
        go_ret2
        exact ⟨rfl, v2, (Turn.of_below b1 _).trans t2⟩
      | false =>
        obtain rfl : x0 = cwd := hx0
        go_enter Tryz.func18, Tryz.ntmps18
        go_wp2_with fail
        refine hsp.mono ?_; rintro e W1 ⟨v, rfl, own, b1⟩
        have v1 := hV.below b1
        go_wp2_with fail
        refine (start _ v1).mono ?_; rintro e W2 ⟨rfl, v2, t2⟩
        go_wp2_with fail
        go_ret2
        exact ⟨rfl, v2, (Turn.of_below b1 _).trans t2⟩
    | true =>
      have e1 : walkO st x0 ps = walkE (iSaw st x0) x0 ps := by unfold walkO; rw [hh, if_pos rfl, walkE_same (fun k n => get_iSaw _ _ _ _)]
      have e2 : wsawO st x0 ps = wsawE (iSaw st x0) x0 ps := by unfold wsawO; rw [hh]; rfl
      rw [e1, e2]
      rw [hh] at start
      have hS1 := sn_saw hS x0
      obtain ⟨K, hK⟩ : ∃ K, K = walkE (iSaw st x0) x0 ps := ⟨_, rfl⟩
      obtain ⟨V, hVV⟩ : ∃ V, V = wsawE (iSaw st x0) x0 ps := ⟨_, rfl⟩
      rw [← hK, ← hVV]
      have HK := Lib.hid hK
      have HV := Lib.hid hVV
      clear hK hVV e1 e2 hh hS
      have hb2 : b = true ∧ x0 = 1 ∨ b = false ∧ x0 = cwd := by
        cases b with
        | true => exact Or.inl ⟨rfl, hx0⟩
        | false => exact Or.inr ⟨rfl, hx0⟩
      clear hx0
      rcases hb2 with ⟨rfl, rfl⟩ | ⟨rfl, rfl⟩
      all_goals
        go_enter Tryz.func18, Tryz.ntmps18
        go_wp2_with fail
        refine hsp.mono ?_; rintro e W1 ⟨v, rfl, own, b1⟩
        obtain ⟨a, c, rfl, tr, _⟩ := own.tr
        have v1 := hV.below b1
        clear hsp own hV
        go_wp2_with fail
        refine (start _ v1).mono ?_; rintro e W2 ⟨rfl, v2, t2⟩
        have T2 := (Turn.of_below b1 _).trans t2
        have tr2 := tr.turnR v1 t2
        clear start v1 b1 t2 tr
        generalize iSaw st _ = st1 at *
        go_wp2_with fail
        go_loopw [11, 32] (fun at' k wr => ∃ (x : Int) (j : Nat) (st2 : VSt), j ≤ ps.length ∧ at' = .int .i64 x ∧ k = .int .i64 (j : Int) ∧ walkE st2 x (ps.drop j) = K ∧ wsawE st2 x (ps.drop j) = V ∧ Sn st2 ∧ RViewAt wr R st2 ∧ Turn (· = R.r) w wr ∧ TR wr a ps) (fun _ k _ => ps.length - (intOf k).toNat)
        case' atStart => exact ⟨_, 0, st1, Nat.zero_le _, rfl, rfl, HK.out.symm, HV.out.symm, hS1, v2, T2, tr2⟩
        case' round =>
          clear v2 hS1 tr2 T2 HK HV
          obtain ⟨x, j, st2, hj, rfl, rfl, hR, hV, hS2, v2, T2, tr2⟩ := hrel
          by_cases hlt : j < ps.length
          · have l1 : (j : Int) < (ps.length : Int) := by omega
            have l0 : (0 : Int) ≤ (j : Int) := by omega
            obtain ⟨xa, rfl, xc⟩ := tr2 j hlt
            have hd : ps.drop j = ps[j] :: ps.drop (j + 1) := List.drop_eq_getElem_cons hlt
            rw [hd] at hR hV
            have hsz := hz ps[j] (List.getElem_mem hlt)
            have hf := fun W3 (h : RViewAt W3 R st2) => rfind_any R st2 x ps[j] hsz (sn_val hS2 x) W3 h
            have hi := fun W3 (h : RViewAt W3 R (iSaw st2 x)) => ris_any R (iSaw st2 x) (fndN (dEnts st2 x) ps[j]) W3 h
            simp only [iHas_iSaw] at hi
            have T2' := Lib.hid T2
            have TR2 := Lib.hid tr2
            have hwr := walk_round hR hV
            clear T2 tr2 hR hV hd hz hsz
            rcases hwr with ⟨c1, c2, c3⟩ | ⟨c1, c2, c3, c4⟩ | ⟨c1, c2, c3, c4⟩
            · rw [c1] at hf
              have C2 := Lib.hid c2
              have C3 := Lib.hid c3
              generalize fndN (dEnts st2 x) ps[j] = y at *
              generalize ps[j] = s at *
              clear c1 c2 c3 hi TR2 hS2
              go_wp2_with fail
              refine (hf _ v2).mono ?_; rintro e W3 ⟨rfl, v3, t3⟩
              go_wp2_with fail
              go_ret2
              rw [C2.out, C3.out]
              exact ⟨rfl, v3, T2'.out.trans t3⟩
            · rw [c1] at hf
              rw [c2] at hi
              have C2 := Lib.hid c3
              have C3 := Lib.hid c4
              generalize fndN (dEnts st2 x) ps[j] = y at *
              generalize ps[j] = s at *
              clear c1 c2 c3 c4 TR2 hS2
              go_wp2_with fail
              refine (hf _ v2).mono ?_; rintro e W3 ⟨rfl, v3, t3⟩
              clear hf v2
              go_wp2_with fail
              refine (hi _ v3).mono ?_; rintro e W4 ⟨rfl, v4, t4⟩
              go_wp2_with fail
              go_ret2
              rw [C2.out, C3.out]
              exact ⟨rfl, v4, (T2'.out.trans t3).trans t4⟩
            · rw [c1] at hf
              rw [c2] at hi
              have C2 := Lib.hid c3
              have C3 := Lib.hid c4
              have hS4 := sn_saw (sn_saw hS2 x) (fndN (dEnts st2 x) ps[j])
              generalize fndN (dEnts st2 x) ps[j] = y at *
              generalize ps[j] = s at *
              clear c1 c2 c3 c4 hS2
              go_wp2_with fail
              refine (hf _ v2).mono ?_; rintro e W3 ⟨rfl, v3, t3⟩
              have tr3 := Lib.hid (TR2.out.turnR v2 t3)
              clear hf v2 TR2
              go_wp2_with fail
              refine (hi _ v3).mono ?_; rintro e W4 ⟨rfl, v4, t4⟩
              have tr4 := Lib.hid (tr3.out.turnR v3 t4)
              clear hi v3 tr3
              go_wp2_with fail
              exact ⟨⟨y, j + 1, _, by omega, rfl, by go_num, C2.out, C3.out, hS4, v4, (T2'.out.trans t3).trans t4, tr4.out⟩, by simp [intOf]; omega⟩
          · obtain rfl : j = ps.length := by omega
            rw [List.drop_length] at hR hV
            have hR' : K = some x := hR.symm
            have hV' : V = st2 := hV.symm
            have HR2 := Lib.hid hR'
            have HV2 := Lib.hid hV'
            clear hR hV hR' hV' tr2 hz hS2
            go_wp2_with fail
            go_ret2
            rw [HR2.out, HV2.out]
            exact ⟨rfl, v2, T2⟩
/-- A list without its last place. -/
theorem TR.init {W : World} {a : Option Addr} {qs : List ByteArray} {s0 : ByteArray} (h : TR W a (qs ++ [s0])) : TR W a qs := fun i hi => by
  obtain ⟨x, e, c⟩ := h i (by simp; omega)
  rw [List.getElem_append_left hi] at c
  exact ⟨x, e, c⟩
theorem TR.last {W : World} {a : Option Addr} {qs : List ByteArray} {s0 : ByteArray} (h : TR W a (qs ++ [s0])) : ∃ x, a = some x ∧ W.cell? (x.add qs.length) = some (.string s0) := by
  obtain ⟨x, e, c⟩ := h qs.length (by simp)
  rw [List.getElem_append_right (Nat.le_refl _)] at c
  simp at c
  exact ⟨x, e, c⟩
set_option maxRecDepth 100000 in
set_option maxHeartbeats 8000000 in
theorem rparent_any (R : RLay) (st : VSt) (hS : Sn st) (cwd : Int) (s : ByteArray) (hs : s.size ≤ 500000) (w : World) (hV : RViewAt w R st) :
    Calls Tryz.prog 21 #[.pointer (some ⟨R.q, 0, none⟩), .int .i64 cwd, .string s] w fun e W' => e = .returned (.tuple #[.int .i64 ((pPar st cwd s).getD (0, ⟨#[]⟩)).1, .string ((pPar st cwd s).getD (0, ⟨#[]⟩)).2, .bool (pPar st cwd s).isSome]) ∧ RViewAt W' R (pParV st cwd s) ∧ Turn (· = R.r) w W' := by
  have hsp := refSplit_any s w (by omega)
  have hz := splN_size s (by omega)
  have hl := splN_len s
  unfold pPar pParV
  cases hk : splOk s.data.toList with
  | false =>
    rw [if_neg (by simp), if_neg (by simp)]
    rw [hk] at hsp
    generalize splB s.data.toList = b at *
    generalize splN s.data.toList = ps at *
    clear hk hz
    go_enter Tryz.func21, Tryz.ntmps21
    go_wp2_with fail
    refine hsp.mono ?_; rintro e W1 ⟨v, rfl, own, b1⟩
    go_wp2_with fail
    go_ret3
    exact ⟨rfl, hV.below b1, Turn.of_below b1 _⟩
  | true =>
    rw [if_pos rfl, if_pos rfl]
    rw [hk] at hsp
    obtain ⟨x0, hx0⟩ : ∃ x0, x0 = (if splB s.data.toList = true then (1 : Int) else cwd) := ⟨_, rfl⟩
    rw [← hx0]
    generalize splB s.data.toList = b at *
    generalize splN s.data.toList = ps at *
    have hps : ps.length ≤ 500001 := by omega
    clear hk hl hs
    rcases List.eq_nil_or_concat ps with rfl | ⟨qs, s0, rfl⟩
    · go_enter Tryz.func21, Tryz.ntmps21
      go_wp2_with fail
      refine hsp.mono ?_; rintro e W1 ⟨v, rfl, own, b1⟩
      obtain ⟨a, c, rfl, tr, _⟩ := own.tr
      go_wp2_with fail
      go_ret3
      exact ⟨rfl, hV.below b1, Turn.of_below b1 _⟩
    simp only [List.concat_eq_append] at *
    have e1 : pParE st x0 (qs ++ [s0]) = match walkO st x0 qs with
      | none => none
      | some y => if (iVal st y).n 0 = 1 then some (y, s0) else none := by unfold pParE; simp; cases walkO st x0 qs <;> rfl
    have e2 : pParEV st x0 (qs ++ [s0]) = match walkO st x0 qs with
      | none => wsawO st x0 qs
      | some y => iSaw (wsawO st x0 qs) y := by unfold pParEV; simp; cases walkO st x0 qs <;> rfl
    have hlen : (qs ++ [s0]).length = qs.length + 1 := by simp
    have hql : qs.length ≤ 500000 := by omega
    have l00 : (qs.length : Int) ≤ 500000 := by omega
    have hz' : ∀ p ∈ qs, p.size ≤ 1048576 := fun p hp => hz p (by simp [hp])
    have start : ∀ (W1 : World), RViewAt W1 R st → Calls Tryz.prog 58 #[.pointer (some ⟨R.q, 0, none⟩), .int .i64 x0] W1 fun e w' => e = .returned (.bool (iHas st x0)) ∧ RViewAt w' R (iSaw st x0) ∧ Turn (· = R.r) W1 w' := fun W1 h => ris_any R st x0 W1 h
    have hb2 : b = true ∧ x0 = 1 ∨ b = false ∧ x0 = cwd := by
      cases b with
      | true => exact Or.inl ⟨rfl, hx0⟩
      | false => exact Or.inr ⟨rfl, hx0⟩
    clear hx0 hz
    cases hh : iHas st x0 with
    | false =>
      have f1 : walkO st x0 qs = none := by unfold walkO; rw [hh]; rfl
      have f2 : wsawO st x0 qs = iSaw st x0 := by unfold wsawO; rw [hh]; rfl
      rw [f1] at e1 e2
      rw [f2] at e2
      rw [hh] at start
      rw [e1, e2]
      clear f1 f2 e1 e2 hh hz'
      rcases hb2 with ⟨rfl, rfl⟩ | ⟨rfl, rfl⟩
      all_goals
        go_enter Tryz.func21, Tryz.ntmps21
        go_wp2_with fail
        refine hsp.mono ?_; rintro e W1 ⟨v, rfl, own, b1⟩
        obtain ⟨a, c, rfl, tr, _⟩ := own.tr
        rw [hlen]
        have v1 := hV.below b1
        clear own hsp tr
        go_wp2_with fail
        refine (start _ v1).mono ?_; rintro e W2 ⟨rfl, v2, t2⟩
        go_wp2_with fail
        go_ret3
        exact ⟨rfl, v2, (Turn.of_below b1 _).trans t2⟩
    | true =>
      have f1 : walkO st x0 qs = walkE (iSaw st x0) x0 qs := by unfold walkO; rw [hh, if_pos rfl, walkE_same (fun k n => get_iSaw _ _ _ _)]
      have f2 : wsawO st x0 qs = wsawE (iSaw st x0) x0 qs := by unfold wsawO; rw [hh]; rfl
      rw [f1] at e1
      rw [f1, f2] at e2
      rw [hh] at start
      have hS1 := sn_saw hS x0
      have hval : ∀ y, (iVal (wsawE (iSaw st x0) x0 qs) y).n 0 = (iVal st y).n 0 := fun y => by unfold iVal; rw [wsawE_get, get_iSaw]
      obtain ⟨K, hK⟩ : ∃ K, K = walkE (iSaw st x0) x0 qs := ⟨_, rfl⟩
      obtain ⟨V, hVV⟩ : ∃ V, V = wsawE (iSaw st x0) x0 qs := ⟨_, rfl⟩
      rw [← hK] at e1 e2
      rw [← hVV] at e2 hval
      generalize pParE st x0 (qs ++ [s0]) = P at *
      generalize pParEV st x0 (qs ++ [s0]) = PV at *
      have HN : K = none → P = none ∧ PV = V := fun q => by rw [e1, e2, q]; exact ⟨rfl, rfl⟩
      have HY : ∀ y, K = some y → (iVal V y).n 0 = 1 → P = some (y, s0) ∧ PV = iSaw V y := fun y q r => by
        rw [hval] at r
        rw [e1, e2, q]
        exact ⟨if_pos r, rfl⟩
      have HZ : ∀ y, K = some y → ¬ (iVal V y).n 0 = 1 → P = none ∧ PV = iSaw V y := fun y q r => by
        rw [hval] at r
        rw [e1, e2, q]
        exact ⟨if_neg r, rfl⟩
      have HK := Lib.hid hK
      have HV := Lib.hid hVV
      have HN' := Lib.hid HN
      have HY' := Lib.hid HY
      have HZ' := Lib.hid HZ
      clear hK hVV e1 e2 f1 f2 hh hS hval HN HY HZ
      rcases hb2 with ⟨rfl, rfl⟩ | ⟨rfl, rfl⟩
      all_goals
        go_enter Tryz.func21, Tryz.ntmps21
        go_wp2_with fail
        refine hsp.mono ?_; rintro e W1 ⟨v, rfl, own, b1⟩
        obtain ⟨a, c, rfl, tr, hcap⟩ := own.tr2
        rw [hlen] at hcap
        have v1 := hV.below b1
        rw [hlen]
        clear hsp own hV
        go_wp2_with fail
        refine (start _ v1).mono ?_; rintro e W2 ⟨rfl, v2, t2⟩
        have T2 := (Turn.of_below b1 _).trans t2
        have tr2 := tr.turnR v1 t2
        clear start v1 b1 t2 tr hlen
        generalize iSaw st _ = st1 at *
        have c1 : (0 : Int) ≤ (qs.length : Int) := by omega
        have c2 : (qs.length : Int) ≤ (c : Int) := by omega
        have c3 : (qs.length : Int) ≤ (qs.length : Int) + 1 := by omega
        go_wp2_with fail
        go_loopw [12, 42] (fun at' k wr => ∃ (x : Int) (j : Nat) (st2 : VSt), j ≤ qs.length ∧ at' = .int .i64 x ∧ k = .int .i64 (j : Int) ∧ walkE st2 x (qs.drop j) = K ∧ wsawE st2 x (qs.drop j) = V ∧ Sn st2 ∧ RViewAt wr R st2 ∧ Turn (· = R.r) w wr ∧ TR wr a (qs ++ [s0])) (fun _ k _ => qs.length - (intOf k).toNat)
        case' atStart => exact ⟨_, 0, st1, Nat.zero_le _, rfl, rfl, HK.out.symm, HV.out.symm, hS1, v2, T2, tr2⟩
        case' round =>
          clear v2 hS1 tr2 T2 HK HV
          obtain ⟨x, j, st2, hj, rfl, rfl, hR, hV, hS2, v2, T2, tr2⟩ := hrel
          by_cases hlt : j < qs.length
          · have l1 : (j : Int) < (qs.length : Int) := by omega
            have l0 : (0 : Int) ≤ (j : Int) := by omega
            obtain ⟨xa, rfl, xc⟩ := tr2.init j hlt
            have hd : qs.drop j = qs[j] :: qs.drop (j + 1) := List.drop_eq_getElem_cons hlt
            rw [hd] at hR hV
            have hsz := hz' qs[j] (List.getElem_mem hlt)
            have hf := fun W3 (h : RViewAt W3 R st2) => rfind_any R st2 x qs[j] hsz (sn_val hS2 x) W3 h
            have hi := fun W3 (h : RViewAt W3 R (iSaw st2 x)) => ris_any R (iSaw st2 x) (fndN (dEnts st2 x) qs[j]) W3 h
            simp only [iHas_iSaw] at hi
            have T2' := Lib.hid T2
            have TR2 := Lib.hid tr2
            have hwr := walk_round hR hV
            clear T2 tr2 hR hV hd hz' hsz c2
            rcases hwr with ⟨c1, c2, c3⟩ | ⟨c1, c2, c3, c4⟩ | ⟨c1, c2, c3, c4⟩
            · obtain ⟨n1, n2⟩ := HN'.out c2
              rw [c1] at hf
              have C2 := Lib.hid n1
              have C3 := Lib.hid (n2.trans c3)
              generalize fndN (dEnts st2 x) qs[j] = y at *
              generalize qs[j] = s at *
              clear c1 c2 c3 hi TR2 hS2 n1 n2 HN' HY' HZ'
              go_wp2_with fail
              refine (hf _ v2).mono ?_; rintro e W3 ⟨rfl, v3, t3⟩
              go_wp2_with fail
              go_ret3
              rw [C2.out, C3.out]
              exact ⟨rfl, v3, T2'.out.trans t3⟩
            · obtain ⟨n1, n2⟩ := HN'.out c3
              rw [c1] at hf
              rw [c2] at hi
              have C2 := Lib.hid n1
              have C3 := Lib.hid (n2.trans c4)
              generalize fndN (dEnts st2 x) qs[j] = y at *
              generalize qs[j] = s at *
              clear c1 c2 c3 c4 TR2 hS2 n1 n2 HN' HY' HZ'
              go_wp2_with fail
              refine (hf _ v2).mono ?_; rintro e W3 ⟨rfl, v3, t3⟩
              clear hf v2
              go_wp2_with fail
              refine (hi _ v3).mono ?_; rintro e W4 ⟨rfl, v4, t4⟩
              go_wp2_with fail
              go_ret3
              rw [C2.out, C3.out]
              exact ⟨rfl, v4, (T2'.out.trans t3).trans t4⟩
            · rw [c1] at hf
              rw [c2] at hi
              have C2 := Lib.hid c3
              have C3 := Lib.hid c4
              have hS4 := sn_saw (sn_saw hS2 x) (fndN (dEnts st2 x) qs[j])
              generalize fndN (dEnts st2 x) qs[j] = y at *
              generalize qs[j] = s at *
              clear c1 c2 c3 c4 hS2 HN' HY' HZ'
              go_wp2_with fail
              refine (hf _ v2).mono ?_; rintro e W3 ⟨rfl, v3, t3⟩
              have tr3 := Lib.hid (TR2.out.turnR v2 t3)
              clear hf v2 TR2
              go_wp2_with fail
              refine (hi _ v3).mono ?_; rintro e W4 ⟨rfl, v4, t4⟩
              have tr4 := Lib.hid (tr3.out.turnR v3 t4)
              clear hi v3 tr3
              go_wp2_with fail
              exact ⟨⟨y, j + 1, _, by omega, rfl, by go_num, C2.out, C3.out, hS4, v4, (T2'.out.trans t3).trans t4, tr4.out⟩, by simp [intOf]; omega⟩
          · obtain rfl : j = qs.length := by omega
            rw [List.drop_length] at hR hV
            have hR' : K = some x := hR.symm
            have hV' : V = st2 := hV.symm
            subst hV'
            have l0 : (0 : Int) ≤ (qs.length : Int) := by omega
            have l2 : (qs.length : Int) < (qs.length : Int) + 1 := by omega
            have hsd := fun W3 (h : RViewAt W3 R V) => risdir_any R V x W3 h
            by_cases hy : (iVal V x).n 0 = 1
            · obtain ⟨n1, n2⟩ := HY'.out x hR' hy
              rw [hy] at hsd
              have C2 := Lib.hid n1
              have C3 := Lib.hid n2
              have T2' := Lib.hid T2
              clear hR hV hR' hz' hS2 hy n1 n2 HN' HY' HZ' T2
              go_wp2_with fail
              refine (hsd _ v2).mono ?_; rintro e W4 ⟨rfl, v4, t4⟩
              obtain ⟨xa, rfl, yc⟩ := (tr2.turnR v2 t4).last
              clear hsd v2 tr2
              go_wp2_with fail
              go_quiet (fail)
              have v5 := v4.below (below_drewN (Below.refl _ W4) nq)
              have T5 : Turn (· = R.r) w (W4.drewN nq) := (T2'.out.trans t4).drewN nq
              generalize W4.drewN nq = W5 at *
              go_wp2_with fail
              go_ret3
              rw [C2.out, C3.out]
              exact ⟨rfl, v5, T5⟩
            · obtain ⟨n1, n2⟩ := HZ'.out x hR' hy
              rw [show ((iVal V x).n 0 == 1) = false from beq_eq_false_iff_ne.2 hy] at hsd
              have C2 := Lib.hid n1
              have C3 := Lib.hid n2
              have T2' := Lib.hid T2
              clear hR hV hR' hz' hS2 hy n1 n2 HN' HY' HZ' T2 tr2
              go_wp2_with fail
              refine (hsd _ v2).mono ?_; rintro e W4 ⟨rfl, v4, t4⟩
              clear hsd v2
              go_wp2_with fail
              go_ret3
              rw [C2.out, C3.out]
              exact ⟨rfl, v4, T2'.out.trans t4⟩
end Go.Proofs.YtfcgkjbifnhjjaaGreatDoor.St
