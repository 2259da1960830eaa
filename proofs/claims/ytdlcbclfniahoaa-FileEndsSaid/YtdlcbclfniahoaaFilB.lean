/- The contracts of file.Dup and file.Close, over a view in memory. No condition but those written in each statement. -/
import Derived.Test.YtdlcbclfniahoaaFilA
namespace Go.Proofs.Ytdlcbclfniahoaa.St
open Go.RowKit
set_option linter.unusedVariables false

attribute [local go_sem] blk_alloc_at blk_alloc_past blk_drew blk_drewN blk_setB_same blk_setB_other blk_setRow_other setRow_alloc_at setRow_alloc_past setRow_drewN setRow_drew setB_size setB_cell setB_frozen setB_alloc_past setB_drewN setB_drew run_loadV loadOr_cells run_storeV storeOr_cells cells_size ones_cells cells_0 cells_1 cells_2 cells_3 cells_4 cells_16 cells_g0 cells_g1 cells_g2 cells_g3 cells_g4 cells_g16 cells_set0 cells_set1 cells_set2 cells_set3 cells_set4 cells_text
attribute [local go_sem ↓] execOp_loadV execOp_storeV
attribute [local go_sem ↓] wp_at0 wp_at1 wp_at2 wp_at3 wp_at4 wp_at5 wp_at6 wp_at7

def fUp (x : Val) : Val := x.set 1 (wrap64 (x.n 1 + 1))
theorem fUp_fold (x : Val) : x.set 1 (wrap64 (x.n 1 + 1)) = fUp x := rfl
def fDown (x : Val) : Val := x.set 1 (wrap64 (x.n 1 - 1))
theorem fDown_fold (x : Val) : x.set 1 (wrap64 (x.n 1 - 1)) = fDown x := rfl
attribute [local go_sem] fUp_fold fDown_fold
def fDup (st : VSt) (f : Int) : VSt := if fHas st f = true then (fGot st f).put 6 f (fUp (fGet st f)) else fGot st f

theorem fdup_any (L : Lay) (st : VSt) (f : Int) (w : World) (hV : ViewAt w L st) :
    Calls Try.prog 13 #[.pointer (some ⟨L.v, 0, none⟩), .int .i64 f] w fun e w' => e = .returned (.bool (fHas st f)) ∧ ViewAt w' L (fDup st f) ∧ Turn (fun k => k = L.r ∨ k = L.m) w w' := by
  have lt := hV.lts
  have hz := zero_val
  unfold fDup
  cases hh : fHas st f
  · go_enter Try.func13, Try.ntmps13
    go_wp2_with fail
    refine (fget_any L st f _ hV).mono ?_; rw [hh]; rintro e w1 ⟨rfl, hv1, t1⟩
    go_wp2_with fail
    go_ret
    exact ⟨rfl, hv1.alloc _, (t1.mono fun _ _ => Or.inl).alloc _⟩
  · go_enter Try.func13, Try.ntmps13
    go_wp2_with fail
    refine (fget_any L st f _ hV).mono ?_; rw [hh]; rintro e w1 ⟨rfl, hv1, t1⟩
    generalize hx : fGet st f = x at *
    go_wp2_with fail
    have b2 : blk (w1.alloc (Obj.cells (fUp x).cells 58)) w1.heap.size = some (.cells (fUp x).cells 58 (0, 0)) := blk_alloc_at _ _ _ rfl
    have hv2 := hv1.alloc (Obj.cells (fUp x).cells 58)
    have t2 := t1.alloc (Obj.cells (fUp x).cells 58)
    generalize w1.alloc (Obj.cells (fUp x).cells 58) = W2 at *
    generalize w1.heap.size = B at *
    obtain ⟨bd, vd, sd⟩ := at_drew b2 hv2
    generalize hy : fUp x = y at *
    go_region_with (first
      | (go_at_call 35; refine (fkey_any f _).mono ?_; rintro e w8 ⟨rfl, t8⟩; have b8 := blk_below t8 bd sd; have v8 := vd.below t8; have r8 := t8.size)
      | (go_at_call 25; refine (vput_any L (fGot st f) 6 f y _ (by assumption)).mono ?_; rintro e w9 ⟨rfl, hv9, t9⟩))
    all_goals
      clear b2 hv2 bd vd b8 v8
      go_wp2_with fail
      go_ret
      exact ⟨rfl, by first | exact hv9 | (rw [hx, hy]; exact hv9), ((t2.mono fun _ _ => Or.inl).drew.trans (Turn.of_below t8 _)).trans (t9.mono fun _ _ => Or.inr)⟩

/-- What a file's end leaves, ahead of what it was open on. -/
def fOff (st : VSt) (f : Int) : VSt := (fGot st f).put 6 f Val.zero
def fGone (st : VSt) (f : Int) : VSt := ((fOff st f).saw 5 0).put 5 0 (((fOff st f).get 5 0).set 0 (unmarkN (((fOff st f).get 5 0).n 0) f.toNat))
def fEnd (s : VSt) (y : Val) : VSt := if y.n 0 = 1 then iChange s (y.n 2) 0 (-1) else if y.n 0 = 2 then pEnds s (y.n 2) false (-1) else if y.n 0 = 3 then pEnds s (y.n 2) true (-1) else s
def fClose (st : VSt) (f : Int) : VSt := if fHas st f = true then (if 0 < (fDown (fGet st f)).n 1 then (fGot st f).put 6 f (fDown (fGet st f)) else fEnd (fGone st f) (fDown (fGet st f))) else fGot st f
theorem fhas_in {st : VSt} {f : Int} (h : fHas st f = true) : ∃ j : Nat, f = j ∧ j < 12 := by
  unfold fHas at h
  split at h
  · cases h
  · exact ⟨f.toNat, by omega, by omega⟩

theorem fclose_no (L : Lay) (st : VSt) (f : Int) (hh : fHas st f = false) (w : World) (hV : ViewAt w L st) :
    Calls Try.prog 14 #[.pointer (some ⟨L.v, 0, none⟩), .int .i64 f] w fun e w' => e = .returned (.bool false) ∧ ViewAt w' L (fGot st f) ∧ Turn (fun k => k = L.r ∨ k = L.m) w w' := by
  have lt := hV.lts
  have hz := zero_val
  go_enter Try.func14, Try.ntmps14
  go_wp2_with fail
  refine (fget_any L st f _ hV).mono ?_; rw [hh]; rintro e w1 ⟨rfl, hv1, t1⟩
  go_wp2_with fail
  go_ret
  exact ⟨rfl, hv1.alloc _, (t1.mono fun _ _ => Or.inl).alloc _⟩
theorem fclose_keep (L : Lay) (st : VSt) (f : Int) (hh : fHas st f = true) (hk : decide (0 < (fDown (fGet st f)).n 1) = true) (w : World) (hV : ViewAt w L st) :
    Calls Try.prog 14 #[.pointer (some ⟨L.v, 0, none⟩), .int .i64 f] w fun e w' => e = .returned (.bool true) ∧ ViewAt w' L ((fGot st f).put 6 f (fDown (fGet st f))) ∧ Turn (fun k => k = L.r ∨ k = L.m) w w' := by
  have lt := hV.lts
  have hz := zero_val
  go_enter Try.func14, Try.ntmps14
  go_wp2_with fail
  refine (fget_any L st f _ hV).mono ?_; rw [hh]; rintro e w1 ⟨rfl, hv1, t1⟩
  generalize hx : fGet st f = x at *
  go_wp2_with fail
  have b2 : blk (w1.alloc (Obj.cells (fDown x).cells 58)) w1.heap.size = some (.cells (fDown x).cells 58 (0, 0)) := blk_alloc_at _ _ _ rfl
  have hv2 := hv1.alloc (Obj.cells (fDown x).cells 58)
  have t2 := t1.alloc (Obj.cells (fDown x).cells 58)
  generalize w1.alloc (Obj.cells (fDown x).cells 58) = W2 at *
  generalize w1.heap.size = B at *
  obtain ⟨bd, vd, sd⟩ := at_drew b2 hv2
  generalize hy : fDown x = y at *
  go_region_with (first
    | (go_at_call 35; refine (fkey_any f _).mono ?_; rintro e w8 ⟨rfl, t8⟩; have b8 := blk_below t8 bd sd; have v8 := vd.below t8; have r8 := t8.size)
    | (go_at_call 25; refine (vput_any L (fGot st f) 6 f y _ (by assumption)).mono ?_; rintro e w9 ⟨rfl, hv9, t9⟩))
  all_goals
    clear b2 hv2 bd vd b8 v8
    go_wp2_with fail
    go_ret
    exact ⟨rfl, by first | exact hv9 | (rw [hx, hy]; exact hv9), ((t2.mono fun _ _ => Or.inl).drew.trans (Turn.of_below t8 _)).trans (t9.mono fun _ _ => Or.inr)⟩
theorem fclose_gone (L : Lay) (st : VSt) (f : Int) (hh : fHas st f = true) (hk : decide (0 < (fDown (fGet st f)).n 1) = false) (w : World) (hV : ViewAt w L st) :
    Calls Try.prog 14 #[.pointer (some ⟨L.v, 0, none⟩), .int .i64 f] w fun e w' => e = .returned (.bool true) ∧ ViewAt w' L (fEnd (fGone st f) (fDown (fGet st f))) ∧ Turn (fun k => k = L.r ∨ k = L.m) w w' := by
  have lt := hV.lts
  have hz := zero_val
  obtain ⟨j, rfl, hj⟩ := fhas_in hh
  have j0 : (0 : Int) ≤ (j : Int) := by omega
  have j1 : (j : Int) < 12 := by omega
  go_enter Try.func14, Try.ntmps14
  go_wp2_with fail
  refine (fget_any L st j _ hV).mono ?_; rw [hh]; rintro e w1 ⟨rfl, hv1, t1⟩
  generalize hx : fGet st j = x at *
  go_upto_region 8 with fail
  have b2 : blk (w1.alloc (Obj.cells (fDown x).cells 58)) w1.heap.size = some (.cells (fDown x).cells 58 (0, 0)) := blk_alloc_at _ _ _ rfl
  have hv2 := hv1.alloc (Obj.cells (fDown x).cells 58)
  have t2 := (t1.mono (T := fun k => k = L.r ∨ k = L.m) fun _ _ => Or.inl).alloc (Obj.cells (fDown x).cells 58)
  have q2 : w.heap.size ≤ w1.heap.size := t1.size
  have s2 : w1.heap.size < (w1.alloc (Obj.cells (fDown x).cells 58)).heap.size := by simp
  generalize w1.alloc (Obj.cells (fDown x).cells 58) = W2 at *
  generalize w1.heap.size = B at *
  generalize hy : fDown x = y at *
  clear hv1 t1 hV hh
  go_wp2_with fail
  refine (fkey_any j _).mono ?_; rintro e w3 ⟨rfl, t3⟩
  have hv3 := hv2.below t3
  have b3 := blk_below t3 b2 s2
  have s3 := t3.size
  have t3' := t2.trans (Turn.of_below t3 _)
  clear hv2 b2 t2 t3
  go_wp2_with fail
  refine (vput_any L (fGot st j) 6 j Val.zero _ hv3).mono ?_; rintro e w4 ⟨rfl, hv4, t4⟩
  have b4 : blk w4 B = some (.cells y.cells 58 (0, 0)) := blk_of_turn t4 b3 (by omega)
  have t4' := t3'.trans (t4.mono fun _ _ => Or.inr)
  rw [show (fGot st j).put 6 j Val.zero = fOff st j from rfl] at hv4
  clear hv3 b3 t3' t4 s3
  go_wp2_with fail
  refine (ftable_any _).mono ?_; rintro e w5 ⟨rfl, t5⟩
  have hv5 := hv4.below t5
  have b5 := blk_below t5 b4 (blk_lt b4)
  have t5' := t4'.trans (Turn.of_below t5 _)
  clear hv4 b4 t4' t5
  go_wp2_with fail
  refine (vget_any L (fOff st j) 5 0 _ hv5).mono ?_; rintro e w6 ⟨rfl, hv6, t6⟩
  have b6 : blk w6 B = some (.cells y.cells 58 (0, 0)) := blk_of_turn t6 b5 (by omega)
  have t6' := t5'.trans (t6.mono fun _ _ => Or.inl)
  clear hv5 b5 t5' t6
  generalize hu : (fOff st j).get 5 0 = u at *
  go_upto_region 11 with fail
  have eu : bits BinOp.andNot IntKind.i64 (u.n 0) (wrap64 (2 ^ j)) = unmarkN (u.n 0) j := by rw [unmarkN]
  rw [eu]
  generalize hq : u.set 0 (unmarkN (u.n 0) j) = q at *
  have s6 := blk_lt b6
  have b7 : blk (w6.alloc (Obj.cells q.cells 58)) w6.heap.size = some (.cells q.cells 58 (0, 0)) := blk_alloc_at _ _ _ rfl
  have c7 : blk (w6.alloc (Obj.cells q.cells 58)) B = some (.cells y.cells 58 (0, 0)) := by rw [blk_alloc_past _ _ _ s6]; exact b6
  have hv7 := hv6.alloc (Obj.cells q.cells 58)
  have t7 := (t6'.alloc (Obj.cells q.cells 58)).drew
  generalize w6.alloc (Obj.cells q.cells 58) = W7 at *
  generalize w6.heap.size = C at *
  obtain ⟨bd, vd, sd⟩ := at_drew b7 hv7
  obtain ⟨cd, _, sc⟩ := at_drew c7 hv7
  clear hv6 b6 t6'
  go_region_with (first
    | (go_at_call 34; refine (ftable_any _).mono ?_; rintro e w8 ⟨rfl, t8⟩; have b8 := blk_below t8 bd sd; have v8 := vd.below t8; have r8 := t8.size)
    | (go_at_call 25; refine (vput_any L ((fOff st j).saw 5 0) 5 0 q _ (by assumption)).mono ?_; rintro e w9 ⟨rfl, hv9, t9⟩))
  all_goals
    have c8 := blk_below t8 cd sc
    have c9 : blk w9 B = some (.cells y.cells 58 (0, 0)) := blk_of_turn t9 c8 (by omega)
    have t9' := (t7.trans (Turn.of_below t8 _)).trans (t9.mono fun _ _ => Or.inr)
    have eG : ((fOff st j).saw 5 0).put 5 0 q = fGone st j := by unfold fGone; rw [hu, show (j : Int).toNat = j from rfl, hq]
    rw [eG] at hv9
    have d0 := cell_of_row _ _ 0 _ _ _ c9
    have d2 := cell_of_row _ _ 2 _ _ _ c9
    rw [cells_0] at d0
    rw [cells_2] at d2
    clear b7 c7 hv7 t7 bd cd vd sd sc b8 v8 t8 r8 t9 c8 c9 eG hu hq eu
    have hc : (y.n 0 = 1 ∧ fEnd (fGone st j) y = iChange (fGone st j) (y.n 2) 0 (-1)) ∨ (y.n 0 = 2 ∧ fEnd (fGone st j) y = pEnds (fGone st j) (y.n 2) false (-1)) ∨ (y.n 0 = 3 ∧ fEnd (fGone st j) y = pEnds (fGone st j) (y.n 2) true (-1)) ∨ ((y.n 0 == 1) = false ∧ (y.n 0 == 2) = false ∧ (y.n 0 == 3) = false ∧ fEnd (fGone st j) y = fGone st j) := by
      unfold fEnd
      by_cases c1 : y.n 0 = 1
      · exact .inl ⟨c1, if_pos c1⟩
      · by_cases c2 : y.n 0 = 2
        · exact .inr (.inl ⟨c2, by rw [if_neg c1, if_pos c2]⟩)
        · by_cases c3 : y.n 0 = 3
          · exact .inr (.inr (.inl ⟨c3, by rw [if_neg c1, if_neg c2, if_pos c3]⟩))
          · exact .inr (.inr (.inr ⟨beq_eq_false_iff_ne.2 c1, beq_eq_false_iff_ne.2 c2, beq_eq_false_iff_ne.2 c3, by rw [if_neg c1, if_neg c2, if_neg c3]⟩))
    generalize hS9 : fGone st j = S9 at *
    have HS9 := Lib.hid hS9
    clear hS9
    generalize y.n 0 = kd at *
    generalize y.n 2 = wh at *
    rcases hc with ⟨rfl, he⟩ | ⟨rfl, he⟩ | ⟨rfl, he⟩ | ⟨n1, n2, n3, he⟩
    · have He := Lib.hid he
      clear he
      go_wp2_with fail
      refine (ichange_any L S9 wh 0 (-1) _ hv9).mono ?_; rintro e wa ⟨rfl, hva, ta⟩
      go_wp2_with fail
      go_ret
      exact ⟨rfl, by rw [HS9.out, hx, hy, He.out]; exact hva, t9'.trans ta⟩
    · have He := Lib.hid he
      clear he
      go_wp2_with fail
      refine (pends_any L S9 wh false (-1) _ hv9).mono ?_; rintro e wa ⟨rfl, hva, ta⟩
      go_wp2_with fail
      go_ret
      exact ⟨rfl, by rw [HS9.out, hx, hy, He.out]; exact hva, t9'.trans ta⟩
    · have He := Lib.hid he
      clear he
      go_wp2_with fail
      refine (pends_any L S9 wh true (-1) _ hv9).mono ?_; rintro e wa ⟨rfl, hva, ta⟩
      go_wp2_with fail
      go_ret
      exact ⟨rfl, by rw [HS9.out, hx, hy, He.out]; exact hva, t9'.trans ta⟩
    · have He := Lib.hid he
      clear he
      go_wp2_with fail
      go_ret
      exact ⟨rfl, by rw [HS9.out, hx, hy, He.out]; exact hv9, t9'⟩

theorem fclose_any (L : Lay) (st : VSt) (f : Int) (w : World) (hV : ViewAt w L st) :
    Calls Try.prog 14 #[.pointer (some ⟨L.v, 0, none⟩), .int .i64 f] w fun e w' => e = .returned (.bool (fHas st f)) ∧ ViewAt w' L (fClose st f) ∧ Turn (fun k => k = L.r ∨ k = L.m) w w' := by
  unfold fClose
  cases hh : fHas st f with
  | false => rw [if_neg (by simp)]; exact fclose_no L st f hh w hV
  | true =>
    rw [if_pos rfl]
    by_cases c : 0 < (fDown (fGet st f)).n 1
    · rw [if_pos c]; exact fclose_keep L st f hh (decide_eq_true c) w hV
    · rw [if_neg c]; exact fclose_gone L st f hh (decide_eq_false c) w hV
end Go.Proofs.Ytdlcbclfniahoaa.St
