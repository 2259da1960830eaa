/- The contract of pipe.Ends over a view in memory. No condition but those written in each statement. -/
import Derived.Test.YtdlcbclfniahoaaPipE
namespace Go.Proofs.Ytdlcbclfniahoaa.St
open Go.RowKit
set_option linter.unusedVariables false

attribute [local go_sem] blk_alloc_at blk_alloc_past blk_drew blk_drewN blk_setB_same blk_setB_other blk_setRow_other setRow_alloc_at setRow_alloc_past setRow_drewN setRow_drew setB_size setB_cell setB_frozen setB_alloc_past setB_drewN setB_drew run_loadV loadOr_cells run_storeV storeOr_cells cells_size ones_cells cells_0 cells_1 cells_2 cells_16 cells_g0 cells_g1 cells_g2 cells_g16 cells_set0 cells_set1 cells_set2 cells_text
attribute [local go_sem ↓] execOp_loadV execOp_storeV
attribute [local go_sem ↓] wp_at0 wp_at1 wp_at2 wp_at3 wp_at4 wp_at5 wp_at6 wp_at7
attribute [local go_sem] run_fieldN run_indexN


attribute [local irreducible] Int.lt Int.le
set_option maxRecDepth 20000 in
theorem pends_out (L : Lay) (st : VSt) (q : Int) (wr : Bool) (by' : Int) (h1 : pHas st q = false) (w : World) (hV : ViewAt w L st) :
    Calls Try.prog 41 #[.pointer (some ⟨L.v, 0, none⟩), .int .i64 q, .bool wr, .int .i64 by'] w fun e w' => e = .returned (.bool false) ∧ ViewAt w' L (pSaw st q) ∧ Turn (· = L.r) w w' := by
  go_enter Try.func41, Try.ntmps41
  go_wp2_with fail
  refine (pis_any L st q _ hV).mono ?_; rintro e w1 ⟨rfl, hv1, t1⟩
  go_wp2_with fail
  go_ret
  exact ⟨rfl, hv1, t1⟩

/-- A pipe's value with some ends more or fewer. -/
def pTurn (x : Val) (wr : Bool) (k : Int) : Val := if wr then x.set 1 (wrap64 (x.n 1 + k)) else x.set 0 (wrap64 (x.n 0 + k))
theorem pTurn_t (x : Val) (k : Int) : pTurn x true k = x.set 1 (wrap64 (x.n 1 + k)) := rfl
theorem pTurn_f (x : Val) (k : Int) : pTurn x false k = x.set 0 (wrap64 (x.n 0 + k)) := rfl

set_option maxRecDepth 20000 in
theorem pends_keep (L : Lay) (st : VSt) (q : Int) (wr : Bool) (k : Int) (x : Val) (hx : st.get 8 q = x) (hh : pHas st q = true) (hk : decide ((pTurn x wr k).n 0 ≤ 0) = false ∨ decide ((pTurn x wr k).n 0 ≤ 0) = true ∧ decide ((pTurn x wr k).n 1 ≤ 0) = false) (w : World) (hV : ViewAt w L st) :
    Calls Try.prog 41 #[.pointer (some ⟨L.v, 0, none⟩), .int .i64 q, .bool wr, .int .i64 k] w fun e w' => e = .returned (.bool true) ∧ ViewAt w' L ((pLook st q).put 8 q (pTurn x wr k)) ∧ Turn (fun k => k = L.r ∨ k = L.m) w w' := by
  have gx := gx_of hx
  obtain ⟨y, hy⟩ : ∃ y, y = pTurn x wr k := ⟨_, rfl⟩
  rw [← hy]
  rw [← hy] at hk
  have hk' : ¬ y.n 0 ≤ 0 ∨ y.n 0 ≤ 0 ∧ ¬ y.n 1 ≤ 0 := by simpa using hk
  clear hk
  cases wr
  case' false =>
    have Hy := Lib.hid (hy.trans (pTurn_f x k))
    clear hy
  case' true =>
    have Hy := Lib.hid (hy.trans (pTurn_t x k))
    clear hy
  all_goals
    go_enter Try.func41, Try.ntmps41
    go_wp2_with fail
    refine (pis_any L st q _ hV).mono ?_; rintro e w1 ⟨rfl, hv1, t1⟩
    go_wp2_with fail
    refine (pkey_any q _).mono ?_; rintro e w2 ⟨rfl, t2⟩
    have hv2 := hv1.below t2
    go_wp2_with fail
    refine (vget_any L (pSaw st q) 8 q _ hv2).mono ?_; rintro e w3 ⟨rfl, hv3, t3⟩
    rw [gx]
    have t3' := (t1.trans (Turn.of_below t2 _)).trans t3
    clear t1 hv1 t2 hv2 t3
    go_upto_region 8 with fail
    rw [← Hy.out]
    clear Hy
    rcases hk' with k1 | ⟨k1, k2⟩
    all_goals
      go_wp2_with fail
      have b2 : blk (w3.alloc (Obj.cells y.cells 58)) w3.heap.size = some (.cells y.cells 58 (0, 0)) := blk_alloc_at _ _ _ rfl
      have hv4 := hv3.alloc (Obj.cells y.cells 58)
      have t4 := t3'.alloc (Obj.cells y.cells 58)
      clear hv3 t3'
      generalize w3.alloc (Obj.cells y.cells 58) = W2 at *
      generalize w3.heap.size = B at *
      obtain ⟨bd, vd, sd⟩ := at_drew b2 hv4
      go_region_with (first
        | (go_at_call 47; refine (pkey_any q _).mono ?_; rintro e w8 ⟨rfl, t8⟩; have b8 := blk_below t8 bd sd; have v8 := vd.below t8; have r8 := t8.size)
        | (go_at_call 25; refine (vput_any L ((pSaw st q).saw 8 q) 8 q y _ (by assumption)).mono ?_; rintro e w9 ⟨rfl, hv9, t9⟩))
      all_goals
        clear b2 hv4 bd vd b8 v8
        go_wp2_with fail
        go_ret
        exact ⟨rfl, hv9, ((t4.mono fun _ _ => Or.inl).drew.trans (Turn.of_below t8 _)).trans (t9.mono fun _ _ => Or.inr)⟩

/-- Behind the last end. -/
def pGone (st : VSt) (q : Int) : VSt := (pMark (pLook st q) q.toNat false).put 8 q Val.zero

set_option maxRecDepth 20000 in
theorem pends_gone (L : Lay) (st : VSt) (q : Int) (wr : Bool) (k : Int) (x : Val) (hx : st.get 8 q = x) (hh : pHas st q = true) (k1 : (pTurn x wr k).n 0 ≤ 0) (k2 : (pTurn x wr k).n 1 ≤ 0) (w : World) (hV : ViewAt w L st) :
    Calls Try.prog 41 #[.pointer (some ⟨L.v, 0, none⟩), .int .i64 q, .bool wr, .int .i64 k] w fun e w' => e = .returned (.bool true) ∧ ViewAt w' L (pGone st q) ∧ Turn (fun k => k = L.r ∨ k = L.m) w w' := by
  have gx := gx_of hx
  have hz := zero_val
  obtain ⟨q1, q2⟩ := phas_in hh
  obtain ⟨j, rfl⟩ := Int.eq_ofNat_of_zero_le q1
  obtain ⟨y, hy⟩ : ∃ y, y = pTurn x wr k := ⟨_, rfl⟩
  rw [← hy] at k1 k2
  cases wr
  case' false =>
    have Hy := Lib.hid (hy.trans (pTurn_f x k))
    clear hy
  case' true =>
    have Hy := Lib.hid (hy.trans (pTurn_t x k))
    clear hy
  all_goals
    go_enter Try.func41, Try.ntmps41
    go_wp2_with fail
    refine (pis_any L st j _ hV).mono ?_; rintro e w1 ⟨rfl, hv1, t1⟩
    go_wp2_with fail
    refine (pkey_any j _).mono ?_; rintro e w2 ⟨rfl, t2⟩
    have hv2 := hv1.below t2
    go_wp2_with fail
    refine (vget_any L (pSaw st j) 8 j _ hv2).mono ?_; rintro e w3 ⟨rfl, hv3, t3⟩
    rw [gx]
    have t3' := (t1.trans (Turn.of_below t2 _)).trans t3
    clear t1 hv1 t2 hv2 t3
    go_upto_region 8 with fail
    rw [← Hy.out]
    clear Hy
    go_wp2_with fail
    generalize hz0 : Val.zero = z at *
    have b4 : blk (w3.alloc (Obj.cells z.cells 58)) w3.heap.size = some (.cells z.cells 58 (0, 0)) := blk_alloc_at _ _ _ rfl
    have hv4 := hv3.alloc (Obj.cells z.cells 58)
    have t4 := t3'.alloc (Obj.cells z.cells 58)
    have l3 := t3'.size
    have lt := hV.lts
    clear hv3 t3' hz
    generalize w3.alloc (Obj.cells z.cells 58) = W4 at *
    generalize w3.heap.size = B at *
    refine (pmark_any L ((pSaw st j).saw 8 j) j false (by omega) _ hv4).mono ?_; rintro e w5 ⟨rfl, hv5, t5⟩
    have b5 : blk w5 B = some (.cells z.cells 58 (0, 0)) := blk_of_turn t5 b4 (by omega)
    have t5' := (t4.mono fun _ _ => Or.inl).trans t5
    clear hv4 b4 t4 t5
    go_wp2_with fail
    obtain ⟨bd, vd, sd⟩ := at_drew b5 hv5
    go_region_with (first
      | (go_at_call 47; refine (pkey_any j _).mono ?_; rintro e w8 ⟨rfl, t8⟩; have b8 := blk_below t8 bd sd; have v8 := vd.below t8; have r8 := t8.size)
      | (go_at_call 25; refine (vput_any L (pMark ((pSaw st j).saw 8 j) j false) 8 j z _ (by assumption)).mono ?_; rintro e w9 ⟨rfl, hv9, t9⟩))
    all_goals
      clear b5 hv5 bd vd b8 v8
      go_wp2_with fail
      go_ret
      exact ⟨rfl, by unfold pGone pLook; rw [hz0]; exact hv9, (t5'.drew.trans (Turn.of_below t8 _)).trans (t9.mono fun _ _ => Or.inr)⟩

/-- pipe.Ends: it answers 'pHas'; what the view is behind it. -/
def pEnds (st : VSt) (q : Int) (wr : Bool) (k : Int) : VSt := if pHas st q = false then pSaw st q else if (pTurn (st.get 8 q) wr k).n 0 ≤ 0 ∧ (pTurn (st.get 8 q) wr k).n 1 ≤ 0 then pGone st q else (pLook st q).put 8 q (pTurn (st.get 8 q) wr k)

theorem pends_any (L : Lay) (st : VSt) (q : Int) (wr : Bool) (k : Int) (w : World) (hV : ViewAt w L st) :
    Calls Try.prog 41 #[.pointer (some ⟨L.v, 0, none⟩), .int .i64 q, .bool wr, .int .i64 k] w fun e w' => e = .returned (.bool (pHas st q)) ∧ ViewAt w' L (pEnds st q wr k) ∧ Turn (fun k => k = L.r ∨ k = L.m) w w' := by
  unfold pEnds
  cases hh : pHas st q with
  | false => rw [if_pos rfl]; exact (pends_out L st q wr k hh w hV).mono fun e w' ⟨a, b, c⟩ => ⟨a, b, c.mono fun _ _ => Or.inl⟩
  | true =>
    rw [if_neg (by decide)]
    by_cases hg : (pTurn (st.get 8 q) wr k).n 0 ≤ 0 ∧ (pTurn (st.get 8 q) wr k).n 1 ≤ 0
    · rw [if_pos hg]; exact pends_gone L st q wr k _ rfl hh hg.1 hg.2 w hV
    · rw [if_neg hg]; refine pends_keep L st q wr k _ rfl hh ?_ w hV
      by_cases h1 : (pTurn (st.get 8 q) wr k).n 0 ≤ 0
      · exact Or.inr ⟨decide_eq_true h1, decide_eq_false fun h2 => hg ⟨h1, h2⟩⟩
      · exact Or.inl (decide_eq_false h1)
end Go.Proofs.Ytdlcbclfniahoaa.St
