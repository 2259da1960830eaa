/- The contract of pipe.Write over a view in memory. No condition but those written in each statement. -/
import Derived.Test.YtdlcbclfniahoaaPipD
namespace Go.Proofs.Ytdlcbclfniahoaa.St
open Go.RowKit
set_option linter.unusedVariables false

attribute [local go_sem] blk_alloc_at blk_alloc_past blk_drew blk_drewN blk_setB_same blk_setB_other blk_setRow_other setRow_alloc_at setRow_alloc_past setRow_drewN setRow_drew setB_size setB_cell setB_frozen setB_alloc_past setB_drewN setB_drew run_loadV loadOr_cells run_storeV storeOr_cells cells_size ones_cells cells_0 cells_1 cells_2 cells_16 cells_g0 cells_g1 cells_g2 cells_g16 cells_set0 cells_set1 cells_set2 cells_text
attribute [local go_sem ↓] execOp_loadV execOp_storeV
attribute [local go_sem ↓] wp_at0 wp_at1 wp_at2 wp_at3 wp_at4 wp_at5 wp_at6 wp_at7
attribute [local go_sem] run_fieldN run_indexN

attribute [local irreducible] Int.lt Int.le
set_option maxRecDepth 20000 in
theorem pwrite_out (L : Lay) (st : VSt) (q : Int) (d : ByteArray) (h1 : pHas st q = false) (w : World) (hV : ViewAt w L st) :
    Calls Try.prog 42 #[.pointer (some ⟨L.v, 0, none⟩), .int .i64 q, .string d] w fun e w' => e = .returned (.tuple #[.int .i64 (-1), .int .i64 1]) ∧ ViewAt w' L (pSaw st q) ∧ Turn (· = L.r) w w' := by
  go_enter Try.func42, Try.ntmps42
  go_wp2_with fail
  refine (pis_any L st q _ hV).mono ?_; rintro e w1 ⟨rfl, hv1, t1⟩
  go_wp2_with fail
  go_ret2
  exact ⟨rfl, hv1, t1⟩

/-- What pipe.Write answers where it gives nothing. -/
def pNay (x : Val) (d : ByteArray) : Int × Int := if x.n 0 ≤ 0 then (-1, 1) else if d.size = 0 then (0, 0) else (0, 2)

set_option maxRecDepth 20000 in
theorem pwrite_nay (L : Lay) (st : VSt) (q : Int) (d : ByteArray) (x : Val) (hx : st.get 8 q = x) (hh : pHas st q = true) (hs : (x.s.size : Int) ≤ 140737488351232) (hc : x.n 0 ≤ 0 ∨ ¬ x.n 0 ≤ 0 ∧ d.size = 0 ∨ ¬ x.n 0 ≤ 0 ∧ 0 < d.size ∧ 16 - (x.s.size : Int) ≤ 0) (w : World) (hV : ViewAt w L st) :
    Calls Try.prog 42 #[.pointer (some ⟨L.v, 0, none⟩), .int .i64 q, .string d] w fun e w' => e = .returned (.tuple #[.int .i64 (pNay x d).1, .int .i64 (pNay x d).2]) ∧ ViewAt w' L (pLook st q) ∧ Turn (· = L.r) w w' := by
  have gx := gx_of hx
  have e1 : wrap64 (16 - (x.s.size : Int)) = 16 - (x.s.size : Int) := by unfold wrap64; omega
  clear hs
  rcases hc with h1 | ⟨h1, h2⟩ | ⟨h1, h2, h3⟩
  case' inl => have hp : pNay x d = (-1, 1) := by unfold pNay; rw [if_pos h1]
  case' inr.inl =>
    have hp : pNay x d = (0, 0) := by unfold pNay; rw [if_neg h1, if_pos h2]
    obtain rfl := size_none h2
  case' inr.inr =>
    have hp : pNay x d = (0, 2) := by unfold pNay; rw [if_neg h1, if_neg (by omega)]
    have hn := list_ne h2
    have hm := list_some d h2
  all_goals
    rw [hp]
    clear hp
    go_enter Try.func42, Try.ntmps42
    go_wp2_with fail
    refine (pis_any L st q _ hV).mono ?_; rintro e w1 ⟨rfl, hv1, t1⟩
    go_wp2_with fail
    refine (pkey_any q _).mono ?_; rintro e w2 ⟨rfl, t2⟩
    have hv2 := hv1.below t2
    go_wp2_with fail
    refine (vget_any L (pSaw st q) 8 q _ hv2).mono ?_; rintro e w3 ⟨rfl, hv3, t3⟩
    rw [gx]
    have t3' := (t1.trans (Turn.of_below t2 _)).trans t3
    clear t1 hv1 t2 hv2 t3
    go_wp2_with fail
    go_ret2
    exact ⟨rfl, hv3.alloc _, t3'.alloc _⟩

/-- What is given into a pipe that holds s. -/
def pGive (s d : ByteArray) : ByteArray := d.extract 0 (min (d.size : Int) (16 - s.size)).toNat

set_option maxRecDepth 20000 in
theorem pwrite_yes (L : Lay) (st : VSt) (q : Int) (d : ByteArray) (x : Val) (hx : st.get 8 q = x) (hh : pHas st q = true) (h1 : ¬ x.n 0 ≤ 0) (h2 : 0 < d.size) (h3 : ¬ 16 - (x.s.size : Int) ≤ 0) (hd : (d.size : Int) ≤ 140737488351232) (w : World) (hV : ViewAt w L st) :
    Calls Try.prog 42 #[.pointer (some ⟨L.v, 0, none⟩), .int .i64 q, .string d] w fun e w' => e = .returned (.tuple #[.int .i64 (pGive x.s d).size, .int .i64 0]) ∧ ViewAt w' L ((pLook st q).put 8 q (x.text (x.s ++ pGive x.s d))) ∧ Turn (fun k => k = L.r ∨ k = L.m) w w' := by
  have gx := gx_of hx
  have e1 : wrap64 (16 - (x.s.size : Int)) = 16 - (x.s.size : Int) := by unfold wrap64; omega
  have hn := list_ne h2
  have hm := list_some d h2
  have key : ((d.size : Int) ≤ 16 - (x.s.size : Int) ∧ pGive x.s d = d) ∨ (16 - (x.s.size : Int) < (d.size : Int) ∧ pGive x.s d = d.extract 0 (16 - (x.s.size : Int)).toNat) := by
    unfold pGive
    by_cases c : (d.size : Int) ≤ 16 - (x.s.size : Int)
    · refine Or.inl ⟨c, ?_⟩
      rw [show (min (d.size : Int) (16 - x.s.size)).toNat = d.size by omega]; exact ByteArray.extract_zero_size
    · exact Or.inr ⟨by omega, by rw [show min (d.size : Int) (16 - x.s.size) = 16 - x.s.size by omega]⟩
  have hs : (x.s.size : Int) < 16 := by omega
  have h30 : 0 < 16 - (x.s.size : Int) := by omega
  obtain ⟨E, hE⟩ : ∃ E, E = pGive x.s d := ⟨_, rfl⟩
  have gE : (E.size : Int) ≤ 16 - (x.s.size : Int) := by
    rw [hE]; unfold pGive; rw [ByteArray.size_extract]; omega
  rw [← hE]
  rw [← hE] at key
  clear hE
  rcases key with ⟨c1, rfl⟩ | ⟨c1, k1⟩
  case' inl =>
    obtain ⟨y, hy⟩ : ∃ y, y = x.text (x.s ++ E) := ⟨_, rfl⟩
    rw [← hy]
    have Hy := Lib.hid hy
    clear hy
  case' inr =>
    have k2 : (min (16 - (x.s.size : Int)).toNat d.size : Nat) = E.size := by rw [k1, ByteArray.size_extract]; omega
    obtain ⟨y, hy⟩ : ∃ y, y = x.text (x.s ++ E) := ⟨_, rfl⟩
    rw [← hy]
    have Hy := Lib.hid hy
    have K1 := Lib.hid k1
    have K2 := Lib.hid k2
    have k1' : d.extract 0 (16 - x.s.size) = E := by rw [k1, show (16 - (x.s.size : Int)).toNat = 16 - x.s.size by omega]
    clear hy k1 k2
  all_goals
    go_enter Try.func42, Try.ntmps42
    go_wp2_with fail
    refine (pis_any L st q _ hV).mono ?_; rintro e w1 ⟨rfl, hv1, t1⟩
    go_wp2_with fail
    refine (pkey_any q _).mono ?_; rintro e w2 ⟨rfl, t2⟩
    have hv2 := hv1.below t2
    go_wp2_with fail
    refine (vget_any L (pSaw st q) 8 q _ hv2).mono ?_; rintro e w3 ⟨rfl, hv3, t3⟩
    rw [gx]
    have t3' := (t1.trans (Turn.of_below t2 _)).trans t3
    clear t1 hv1 t2 hv2 t3
    go_wp2_with fail
    try rw [k1']
    rw [← Hy.out]
    clear Hy
    have b2 : blk (w3.alloc (Obj.cells y.cells 58)) w3.heap.size = some (.cells y.cells 58 (0, 0)) := blk_alloc_at _ _ _ rfl
    have hv4 := hv3.alloc (Obj.cells y.cells 58)
    have t4 := t3'.alloc (Obj.cells y.cells 58)
    clear hv3 t3'
    generalize w3.alloc (Obj.cells y.cells 58) = W2 at *
    generalize w3.heap.size = B at *
    obtain ⟨bd, vd, sd⟩ := at_drew b2 hv4
    go_region_with (first
      | (go_at_call 47; refine (pkey_any q _).mono ?_; rintro e w8 ⟨rfl, t8⟩; have b8 := blk_below t8 bd sd; have v8 := vd.below t8; have r8 := t8.size)
      | (go_at_call 25; refine (vput_any L ((pSaw st q).saw 8 q) 8 q y _ (by assumption)).mono ?_; rintro e w9 ⟨rfl, hv9, t9⟩))
    all_goals
      clear b2 hv4 bd vd b8 v8
      go_wp2_with fail
      go_ret2
      exact ⟨rfl, hv9, ((t4.mono fun _ _ => Or.inl).drew.trans (Turn.of_below t8 _)).trans (t9.mono fun _ _ => Or.inr)⟩

/-- pipe.Write: what it answers, what the view is behind it. -/
def pMay (st : VSt) (q : Int) (d : ByteArray) : Prop := pHas st q = true ∧ 0 < (st.get 8 q).n 0 ∧ 0 < d.size ∧ ((st.get 8 q).s.size : Int) < 16
instance (st : VSt) (q : Int) (d : ByteArray) : Decidable (pMay st q d) := by unfold pMay; exact inferInstance
def pWrote (st : VSt) (q : Int) (d : ByteArray) : Int × Int := if pHas st q = false then (-1, 1) else if pMay st q d then ((pGive (st.get 8 q).s d).size, 0) else pNay (st.get 8 q) d
def pWriteV (st : VSt) (q : Int) (d : ByteArray) : VSt := if pHas st q = false then pSaw st q else if pMay st q d then (pLook st q).put 8 q ((st.get 8 q).text ((st.get 8 q).s ++ pGive (st.get 8 q).s d)) else pLook st q

theorem pwrite_any (L : Lay) (st : VSt) (q : Int) (d : ByteArray) (hs : ((st.get 8 q).s.size : Int) ≤ 140737488351232) (hd : (d.size : Int) ≤ 140737488351232) (w : World) (hV : ViewAt w L st) :
    Calls Try.prog 42 #[.pointer (some ⟨L.v, 0, none⟩), .int .i64 q, .string d] w fun e w' => e = .returned (.tuple #[.int .i64 (pWrote st q d).1, .int .i64 (pWrote st q d).2]) ∧ ViewAt w' L (pWriteV st q d) ∧ Turn (fun k => k = L.r ∨ k = L.m) w w' := by
  unfold pWrote pWriteV
  by_cases a1 : pHas st q = false
  · rw [if_pos a1, if_pos a1]
    exact (pwrite_out L st q d a1 w hV).mono fun e w' ⟨a, b, c⟩ => ⟨a, b, c.mono fun _ _ => Or.inl⟩
  · have hh : pHas st q = true := by simpa using a1
    rw [if_neg a1, if_neg a1]
    by_cases a2 : pMay st q d
    · rw [if_pos a2, if_pos a2]
      obtain ⟨_, b1, b2, b3⟩ := a2
      exact pwrite_yes L st q d _ rfl hh (by omega) b2 (by omega) hd w hV
    · rw [if_neg a2, if_neg a2]
      refine (pwrite_nay L st q d _ rfl hh hs ?_ w hV).mono fun e w' ⟨a, b, c⟩ => ⟨a, b, c.mono fun _ _ => Or.inl⟩
      by_cases c1 : (st.get 8 q).n 0 ≤ 0
      · exact Or.inl c1
      · by_cases c2 : d.size = 0
        · exact Or.inr (Or.inl ⟨c1, c2⟩)
        · refine Or.inr (Or.inr ⟨c1, by omega, ?_⟩)
          apply Decidable.byContradiction
          intro c3
          exact a2 ⟨hh, by omega, by omega, by omega⟩
end Go.Proofs.Ytdlcbclfniahoaa.St
