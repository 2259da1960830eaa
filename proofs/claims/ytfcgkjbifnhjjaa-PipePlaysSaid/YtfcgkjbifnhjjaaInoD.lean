/- The contract of inode.Change over a view in memory. No condition but those written in each statement. -/
import Derived.Test.YtfcgkjbifnhjjaaInoC
namespace Go.Proofs.Ytfcgkjbifnhjjaa.St
open Go.RowKit
set_option linter.unusedVariables false

attribute [local go_sem] blk_alloc_at blk_alloc_past blk_drew blk_drewN blk_setB_same blk_setB_other blk_setRow_other setRow_alloc_at setRow_alloc_past setRow_drewN setRow_drew setB_size setB_cell setB_frozen setB_alloc_past setB_drewN setB_drew run_loadV loadOr_cells run_storeV storeOr_cells cells_size ones_cells cells_0 cells_1 cells_2 cells_16 cells_g0 cells_g1 cells_g2 cells_g16 cells_set0 cells_set1 cells_set2 cells_text
attribute [local go_sem ↓] execOp_loadV execOp_storeV
attribute [local go_sem ↓] wp_at0 wp_at1 wp_at2 wp_at3 wp_at4 wp_at5 wp_at6 wp_at7

theorem ichange_no (L : Lay) (st : VSt) (i l h : Int) (hh : iHas st i = false) (w : World) (hV : ViewAt w L st) :
    Calls Try.prog 8 #[.pointer (some ⟨L.v, 0, none⟩), .int .i64 i, .int .i64 l, .int .i64 h] w fun e w' => e = .returned (.bool false) ∧ ViewAt w' L (iSaw st i) ∧ Turn (· = L.r) w w' := by
  have lt := hV.lts
  have hz := zero_val
  go_enter Try.func8, Try.ntmps8
  go_wp2_with fail
  refine (iget_any L st i _ hV).mono ?_; rintro e w1 ⟨rfl, hv1, t1⟩
  go_wp2_with fail
  go_ret
  exact ⟨rfl, hv1.alloc _, t1.alloc _⟩

/-- What an inode's value is behind a change of its links and holders. -/
def iTurn (x : Val) (l h : Int) : Val := (x.set 1 (wrap64 (x.n 1 + l))).set 2 (wrap64 ((x.set 1 (wrap64 (x.n 1 + l))).n 2 + h))
theorem iTurn_fold (x : Val) (l h : Int) : (x.set 1 (wrap64 (x.n 1 + l))).set 2 (wrap64 ((x.set 1 (wrap64 (x.n 1 + l))).n 2 + h)) = iTurn x l h := by rw [iTurn]
attribute [local go_sem] iTurn_fold

theorem ichange_keep (L : Lay) (st : VSt) (i l h : Int) (hh : iHas st i = true) (hk : decide ((iTurn (iVal st i) l h).n 1 ≤ 0) = false ∨ decide ((iTurn (iVal st i) l h).n 1 ≤ 0) = true ∧ decide ((iTurn (iVal st i) l h).n 2 ≤ 0) = false) (w : World) (hV : ViewAt w L st) :
    Calls Try.prog 8 #[.pointer (some ⟨L.v, 0, none⟩), .int .i64 i, .int .i64 l, .int .i64 h] w fun e w' => e = .returned (.bool true) ∧ ViewAt w' L ((iSaw st i).put 10 i (iTurn (iVal st i) l h)) ∧ Turn (fun k => k = L.r ∨ k = L.m) w w' := by
  have lt := hV.lts
  have hz := zero_val
  rcases hk with k1 | ⟨k1, k2⟩
  all_goals
    go_enter Try.func8, Try.ntmps8
    go_wp2_with fail
    refine (iget_any L st i _ hV).mono ?_; rintro e w1 ⟨rfl, hv1, t1⟩
    generalize hx : iVal st i = x at *
    go_wp2_with fail
    have b2 : blk (w1.alloc (Obj.cells (iTurn x l h).cells 47)) w1.heap.size = some (.cells (iTurn x l h).cells 47 (0, 0)) := blk_alloc_at _ _ _ rfl
    have hv2 := hv1.alloc (Obj.cells (iTurn x l h).cells 47)
    have t2 := t1.alloc (Obj.cells (iTurn x l h).cells 47)
    generalize w1.alloc (Obj.cells (iTurn x l h).cells 47) = W2 at *
    generalize w1.heap.size = B at *
    obtain ⟨bd, vd, sd⟩ := at_drew b2 hv2
    generalize hy : iTurn x l h = y at *
    go_region_with (first
      | (go_at_call 45; refine (ikey_any i _).mono ?_; rintro e w8 ⟨rfl, t8⟩; have b8 := blk_below t8 bd sd; have v8 := vd.below t8; have r8 := t8.size)
      | (go_at_call 44; refine (vput_any L (iSaw st i) 10 i y _ (by assumption)).mono ?_; rintro e w9 ⟨rfl, hv9, t9⟩))
    all_goals
      clear b2 hv2 bd vd b8 v8
      go_wp2_with fail
      go_ret
      exact ⟨rfl, by rw [hx, hy]; exact hv9, ((t2.mono fun _ _ => Or.inl).drew.trans (Turn.of_below t8 _)).trans (t9.mono fun _ _ => Or.inr)⟩

/-- A number with bit j taken off, as the code does it. -/
def unmarkI (x : Int) (j : Int) : Int := bits BinOp.andNot IntKind.i64 x (wrap64 (2 ^ j.toNat))

theorem has_in {st : VSt} {i : Int} (h : iHas st i = true) : 1 ≤ i ∧ i < 16 := by
  unfold iHas at h
  split at h
  · exact absurd h (by decide)
  · omega

theorem ichange_gone (L : Lay) (st : VSt) (i l h : Int) (hh : iHas st i = true) (k1 : decide ((iTurn (iVal st i) l h).n 1 ≤ 0) = true) (k2 : decide ((iTurn (iVal st i) l h).n 2 ≤ 0) = true) (w : World) (hV : ViewAt w L st) :
    Calls Try.prog 8 #[.pointer (some ⟨L.v, 0, none⟩), .int .i64 i, .int .i64 l, .int .i64 h] w fun e w' => e = .returned (.bool true) ∧ ViewAt w' L ((((iSaw st i).saw 9 0).put 9 0 (((iSaw st i).get 9 0).set 0 (unmarkI (((iSaw st i).get 9 0).n 0) i))).put 10 i Val.zero) ∧ Turn (fun k => k = L.r ∨ k = L.m) w w' := by
  have lt := hV.lts
  have hz := zero_val
  obtain ⟨i1, i2⟩ := has_in hh
  go_enter Try.func8, Try.ntmps8
  go_wp2_with fail
  refine (iget_any L st i _ hV).mono ?_; rintro e w1 ⟨rfl, hv1, t1⟩
  generalize iVal st i = x at *
  go_wp2_with fail
  have b2 : blk (w1.alloc (Obj.cells Val.zero.cells 47)) w1.heap.size = some (.cells Val.zero.cells 47 (0, 0)) := blk_alloc_at _ _ _ rfl
  have hv2 := hv1.alloc (Obj.cells Val.zero.cells 47)
  have t2 := t1.alloc (Obj.cells Val.zero.cells 47)
  have l2 := t1.size
  generalize w1.alloc (Obj.cells Val.zero.cells 47) = W2 at *
  generalize w1.heap.size = B at *
  refine (itable_any _).mono ?_; rintro e w3 ⟨rfl, q3⟩
  have b3 := blk_below q3 b2 (blk_lt b2)
  have hv3 := hv2.below q3
  have t3 := t2.trans (Turn.of_below q3 _)
  go_wp2_with fail
  refine (vget_any L (iSaw st i) 9 0 _ hv3).mono ?_; rintro e w4 ⟨rfl, hv4, q4⟩
  have b4 : blk w4 B = some (.cells Val.zero.cells 47 (0, 0)) := blk_of_turn q4 b3 (by omega)
  have t4 := t3.trans q4
  clear t1 hv1 b2 hv2 t2 q3 b3 hv3 t3 q4
  generalize hu : (iSaw st i).get 9 0 = u at *
  go_wp2_with fail
  have eu : bits BinOp.andNot IntKind.i64 (u.n 0) (wrap64 (2 ^ i.toNat)) = unmarkI (u.n 0) i := by rw [unmarkI]
  rw [eu]
  generalize hy : u.set 0 (unmarkI (u.n 0) i) = y at *
  have s4 := blk_lt b4
  have b5 : blk (w4.alloc (Obj.cells y.cells 47)) w4.heap.size = some (.cells y.cells 47 (0, 0)) := blk_alloc_at _ _ _ rfl
  have c5 : blk (w4.alloc (Obj.cells y.cells 47)) B = some (.cells Val.zero.cells 47 (0, 0)) := by rw [blk_alloc_past _ _ _ s4]; exact b4
  have hv5 := hv4.alloc (Obj.cells y.cells 47)
  have t5 := (t4.alloc (Obj.cells y.cells 47)).drew
  generalize w4.alloc (Obj.cells y.cells 47) = W5 at *
  generalize w4.heap.size = C at *
  obtain ⟨bd, vd, sd⟩ := at_drew b5 hv5
  obtain ⟨cd, _, sc⟩ := at_drew c5 hv5
  clear b4 hv4 t4
  go_region_with (first
    | (go_at_call 43; refine (itable_any _).mono ?_; rintro e w8 ⟨rfl, t8⟩; have b8 := blk_below t8 bd sd; have v8 := vd.below t8; have r8 := t8.size)
    | (go_at_call 44; refine (vput_any L ((iSaw st i).saw 9 0) 9 0 y _ (by assumption)).mono ?_; rintro e w9 ⟨rfl, hv9, t9⟩))
  all_goals
    have c8 := blk_below t8 cd sc
    have c9 : blk w9 B = some (.cells Val.zero.cells 47 (0, 0)) := blk_of_turn t9 c8 (by omega)
    have t9' := ((t5.mono fun _ _ => Or.inl).trans (Turn.of_below t8 _)).trans (t9.mono fun _ _ => Or.inr)
    clear b5 c5 hv5 t5 bd cd vd sd sc b8 v8 t8 r8 t9 c8
    go_wp2_with fail
    obtain ⟨bd, vd, sd⟩ := at_drew c9 hv9
    generalize hz0 : Val.zero = z at *
    go_region_with (first
      | (go_at_call 45; refine (ikey_any i _).mono ?_; rintro e wa ⟨rfl, ta⟩; have ba := blk_below ta bd sd; have va := vd.below ta; have ra := ta.size)
      | (go_at_call 44; refine (vput_any L (((iSaw st i).saw 9 0).put 9 0 y) 10 i z _ (by assumption)).mono ?_; rintro e wb ⟨rfl, hvb, tb⟩))
    all_goals
      clear bd vd ba va
      go_wp2_with fail
      go_ret
      exact ⟨rfl, by rw [hu, hy, hz0]; exact hvb, (t9'.drew.trans (Turn.of_below ta _)).trans (tb.mono fun _ _ => Or.inr)⟩

/-- inode.Change: what it answers is 'iHas'; what the view is behind it. -/
def iChange (st : VSt) (i l h : Int) : VSt :=
  if iHas st i = false then iSaw st i
  else if (iTurn (iVal st i) l h).n 1 ≤ 0 ∧ (iTurn (iVal st i) l h).n 2 ≤ 0 then
    (((iSaw st i).saw 9 0).put 9 0 (((iSaw st i).get 9 0).set 0 (unmarkI (((iSaw st i).get 9 0).n 0) i))).put 10 i Val.zero
  else (iSaw st i).put 10 i (iTurn (iVal st i) l h)

theorem ichange_any (L : Lay) (st : VSt) (i l h : Int) (w : World) (hV : ViewAt w L st) :
    Calls Try.prog 8 #[.pointer (some ⟨L.v, 0, none⟩), .int .i64 i, .int .i64 l, .int .i64 h] w fun e w' => e = .returned (.bool (iHas st i)) ∧ ViewAt w' L (iChange st i l h) ∧ Turn (fun k => k = L.r ∨ k = L.m) w w' := by
  unfold iChange
  cases hh : iHas st i with
  | false => rw [if_pos rfl]; exact (ichange_no L st i l h hh w hV).mono fun e w' ⟨a, b, c⟩ => ⟨a, b, c.mono fun _ _ => Or.inl⟩
  | true =>
    rw [if_neg (by decide)]
    by_cases hg : (iTurn (iVal st i) l h).n 1 ≤ 0 ∧ (iTurn (iVal st i) l h).n 2 ≤ 0
    · rw [if_pos hg]; exact ichange_gone L st i l h hh (decide_eq_true hg.1) (decide_eq_true hg.2) w hV
    · rw [if_neg hg]; refine ichange_keep L st i l h hh ?_ w hV
      by_cases h1 : (iTurn (iVal st i) l h).n 1 ≤ 0
      · exact Or.inr ⟨decide_eq_true h1, decide_eq_false fun h2 => hg ⟨h1, h2⟩⟩
      · exact Or.inl (decide_eq_false h1)
end Go.Proofs.Ytfcgkjbifnhjjaa.St
