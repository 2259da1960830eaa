/- The contracts of pipe.Read and pipe.Write over a view in memory. No condition but those written in each statement. -/
import Derived.Test.YtdlcbclfniahoaaPipC
import Derived.Test.YtdlcbclfniahoaaInoF
import Derived.Laws.Closers25b
import Derived.Lib.Hide
namespace Go.Proofs.Ytdlcbclfniahoaa.St
open Go.RowKit
set_option linter.unusedVariables false

attribute [local go_sem] blk_alloc_at blk_alloc_past blk_drew blk_drewN blk_setB_same blk_setB_other blk_setRow_other setRow_alloc_at setRow_alloc_past setRow_drewN setRow_drew setB_size setB_cell setB_frozen setB_alloc_past setB_drewN setB_drew run_loadV loadOr_cells run_storeV storeOr_cells cells_size ones_cells cells_0 cells_1 cells_2 cells_16 cells_g0 cells_g1 cells_g2 cells_g16 cells_set0 cells_set1 cells_set2 cells_text
attribute [local go_sem ↓] execOp_loadV execOp_storeV
attribute [local go_sem ↓] wp_at0 wp_at1 wp_at2 wp_at3 wp_at4 wp_at5 wp_at6 wp_at7
attribute [local go_sem] run_fieldN run_indexN

theorem phas_in {st : VSt} {q : Int} (h : pHas st q = true) : 0 ≤ q ∧ q < 4 := by
  unfold pHas at h
  split at h
  · exact absurd h (by decide)
  · omega
theorem get_sawP (st : VSt) (a b k n : Int) : (st.saw a b).get k n = st.get k n := by
  unfold VSt.saw; split <;> rfl
/-- A pipe that is there, and has been looked at. -/
def pLook (st : VSt) (q : Int) : VSt := (pSaw st q).saw 8 q

attribute [local irreducible] Int.lt Int.le
set_option maxRecDepth 20000 in
theorem pread_no (L : Lay) (st : VSt) (q n : Int) (hc : pHas st q = false ∨ pHas st q = true ∧ decide (n < 0) = true) (w : World) (hV : ViewAt w L st) :
    Calls Try.prog 36 #[.pointer (some ⟨L.v, 0, none⟩), .int .i64 q, .int .i64 n] w fun e w' => e = .returned (.tuple #[.string ⟨#[]⟩, .int .i64 1]) ∧ ViewAt w' L (pSaw st q) ∧ Turn (· = L.r) w w' := by
  rcases hc with h1 | ⟨h1, h2⟩
  all_goals
    go_enter Try.func36, Try.ntmps36
    go_wp2_with fail
    refine (pis_any L st q _ hV).mono ?_; rintro e w1 ⟨rfl, hv1, t1⟩
    go_wp2_with fail
    go_ret2
    exact ⟨rfl, hv1, t1⟩

set_option maxRecDepth 20000 in
theorem pread_block (L : Lay) (st : VSt) (q n : Int) (x : Val) (hx : st.get 8 q = x) (hh : pHas st q = true) (h1 : 0 < n) (h2 : x.s = ⟨#[]⟩) (h3 : 0 < x.n 1) (w : World) (hV : ViewAt w L st) :
    Calls Try.prog 36 #[.pointer (some ⟨L.v, 0, none⟩), .int .i64 q, .int .i64 n] w fun e w' => e = .returned (.tuple #[.string ⟨#[]⟩, .int .i64 2]) ∧ ViewAt w' L (pLook st q) ∧ Turn (· = L.r) w w' := by
  have h0 : ¬ n < 0 := by omega
  go_enter Try.func36, Try.ntmps36
  go_wp2_with fail
  refine (pis_any L st q _ hV).mono ?_; rintro e w1 ⟨rfl, hv1, t1⟩
  go_wp2_with fail
  refine (pkey_any q _).mono ?_; rintro e w2 ⟨rfl, t2⟩
  have hv2 := hv1.below t2
  go_wp2_with fail
  refine (vget_any L (pSaw st q) 8 q _ hv2).mono ?_; rintro e w3 ⟨rfl, hv3, t3⟩
  have gx : (pSaw st q).get 8 q = x := by
    rw [← hx]; unfold pSaw; split
    · rfl
    · exact get_sawP _ _ _ _ _
  rw [gx]
  have t3' := (t1.trans (Turn.of_below t2 _)).trans t3
  clear t1 hv1 t2 hv2 t3 gx
  go_wp2_with fail
  go_ret2
  exact ⟨rfl, hv3.alloc _, t3'.alloc _⟩

theorem gx_of {st : VSt} {q : Int} {x : Val} (hx : st.get 8 q = x) : (pSaw st q).get 8 q = x := by
  rw [← hx]; unfold pSaw; split
  · rfl
  · exact get_sawP _ _ _ _ _

set_option maxRecDepth 20000 in
theorem pread_none (L : Lay) (st : VSt) (q n : Int) (x : Val) (hx : st.get 8 q = x) (hh : pHas st q = true) (hc : n = 0 ∨ 0 < n ∧ x.s = ⟨#[]⟩ ∧ x.n 1 ≤ 0) (w : World) (hV : ViewAt w L st) :
    Calls Try.prog 36 #[.pointer (some ⟨L.v, 0, none⟩), .int .i64 q, .int .i64 n] w fun e w' => e = .returned (.tuple #[.string ⟨#[]⟩, .int .i64 0]) ∧ ViewAt w' L (pLook st q) ∧ Turn (· = L.r) w w' := by
  have gx := gx_of hx
  have h00 : (0 : Int) ≤ (x.s.size : Int) := by omega
  have e0 : ByteArray.size ⟨#[]⟩ = 0 := rfl
  rcases hc with rfl | ⟨h1, h2, h3⟩
  case' inr =>
    have h0 : ¬ n < 0 := by omega
    have h4 : ¬ 0 < x.n 1 := by omega
    rw [h2] at h00
  all_goals
    go_enter Try.func36, Try.ntmps36
    go_wp2_with fail
    refine (pis_any L st q _ hV).mono ?_; rintro e w1 ⟨rfl, hv1, t1⟩
    go_wp2_with fail
    refine (pkey_any q _).mono ?_; rintro e w2 ⟨rfl, t2⟩
    have hv2 := hv1.below t2
    go_wp2_with fail
    refine (vget_any L (pSaw st q) 8 q _ hv2).mono ?_; rintro e w3 ⟨rfl, hv3, t3⟩
    rw [gx]
    have t3' := (t1.trans (Turn.of_below t2 _)).trans t3
    clear t1 hv1 t2 hv2 t3
    go_wp2_with fail
    go_ret2
    exact ⟨rfl, hv3.alloc _, t3'.alloc _⟩

theorem list_ne {s : ByteArray} (h : 0 < s.size) : ¬ s.toList = [] := by
  intro e
  rw [toList_nil_iff_emptyBytes] at e
  rw [e] at h
  exact absurd h (by decide)
theorem list_some (s : ByteArray) (h : 0 < s.size) : s.toList.isEmpty = false := by
  cases e : s.toList with
  | nil => exact absurd e (list_ne h)
  | cons a l => rfl

/-- What is taken of a pipe's bytes, and what stays. -/
def pTook (s : ByteArray) (n : Int) : ByteArray := s.extract 0 (min n s.size).toNat
def pLeft (s : ByteArray) (n : Int) : ByteArray := s.extract (min n s.size).toNat s.size

set_option maxRecDepth 20000 in
theorem pread_some (L : Lay) (st : VSt) (q n : Int) (x : Val) (hx : st.get 8 q = x) (hh : pHas st q = true) (h1 : 0 < n) (h2 : 0 < x.s.size) (w : World) (hV : ViewAt w L st) :
    Calls Try.prog 36 #[.pointer (some ⟨L.v, 0, none⟩), .int .i64 q, .int .i64 n] w fun e w' => e = .returned (.tuple #[.string (pTook x.s n), .int .i64 0]) ∧ ViewAt w' L ((pLook st q).put 8 q (x.text (pLeft x.s n))) ∧ Turn (fun k => k = L.r ∨ k = L.m) w w' := by
  have gx := gx_of hx
  have h0 : ¬ n < 0 := by omega
  have hn := list_ne h2
  have hm := list_some (x.s.extract 0 n.toNat) (by rw [ByteArray.size_extract]; omega)
  have hm2 := list_some x.s h2
  have hmx : max n 0 = n := by omega
  have key : (n ≤ (x.s.size : Int) ∧ pTook x.s n = x.s.extract 0 n.toNat ∧ pLeft x.s n = x.s.extract n.toNat x.s.size) ∨ ((x.s.size : Int) < n ∧ pTook x.s n = x.s ∧ pLeft x.s n = ByteArray.empty) := by
    unfold pTook pLeft
    by_cases c : n ≤ (x.s.size : Int)
    · exact Or.inl ⟨c, by rw [show min n (x.s.size : Int) = n by omega], by rw [show min n (x.s.size : Int) = n by omega]⟩
    · refine Or.inr ⟨by omega, ?_, ?_⟩
      · rw [show (min n (x.s.size : Int)).toNat = x.s.size by omega]; exact ByteArray.extract_zero_size
      · rw [show (min n (x.s.size : Int)).toNat = x.s.size by omega]; apply ByteArray.ext; simp
  rcases key with ⟨c1, k1, k2⟩ | ⟨c1, k1, k2⟩
  case' inl => obtain ⟨y, hy⟩ : ∃ y, y = x.text (x.s.extract n.toNat x.s.size) := ⟨_, rfl⟩
  case' inr => obtain ⟨y, hy⟩ : ∃ y, y = x.text ByteArray.empty := ⟨_, rfl⟩
  all_goals
    rw [k1, k2, ← hy]
    have Hy := Lib.hid hy
    clear k1 k2 hy
    go_enter Try.func36, Try.ntmps36
    go_wp2_with fail
    refine (pis_any L st q _ hV).mono ?_; rintro e w1 ⟨rfl, hv1, t1⟩
    go_wp2_with fail
    refine (pkey_any q _).mono ?_; rintro e w2 ⟨rfl, t2⟩
    have hv2 := hv1.below t2
    go_wp2_with fail
    refine (vget_any L (pSaw st q) 8 q _ hv2).mono ?_; rintro e w3 ⟨rfl, hv3, t3⟩
    rw [gx]
    have t3' := (t1.trans (Turn.of_below t2 _)).trans t3
    clear t1 hv1 t2 hv2 t3
    go_wp2_with fail
    rw [← Hy.out]
    clear Hy
    have b2 : blk (w3.alloc (Obj.cells y.cells 58)) w3.heap.size = some (.cells y.cells 58 (0, 0)) := blk_alloc_at _ _ _ rfl
    have hv4 := hv3.alloc (Obj.cells y.cells 58)
    have t4 := t3'.alloc (Obj.cells y.cells 58)
    clear hv3 t3'
    generalize w3.alloc (Obj.cells y.cells 58) = W2 at *
    generalize w3.heap.size = B at *
    obtain ⟨bd, vd, sd⟩ := at_drew b2 hv4
    go_region_with (first
      | (go_at_call 47; refine (pkey_any q _).mono ?_; rintro e w8 ⟨rfl, t8⟩; have b8 := blk_below t8 bd sd; have v8 := vd.below t8; have r8 := t8.size)
      | (go_at_call 25; refine (vput_any L ((pSaw st q).saw 8 q) 8 q y _ (by assumption)).mono ?_; rintro e w9 ⟨rfl, hv9, t9⟩))
    all_goals
      clear b2 hv4 bd vd b8 v8
      go_wp2_with fail
      go_ret2
      exact ⟨rfl, hv9, ((t4.mono fun _ _ => Or.inl).drew.trans (Turn.of_below t8 _)).trans (t9.mono fun _ _ => Or.inr)⟩

/-- pipe.Read: what it answers, what the view is behind it. -/
def pRead (st : VSt) (q n : Int) : ByteArray := if pHas st q = false ∨ n < 0 then ⟨#[]⟩ else if 0 < n ∧ 0 < (st.get 8 q).s.size then pTook (st.get 8 q).s n else ⟨#[]⟩
def pReadS (st : VSt) (q n : Int) : Int := if pHas st q = false ∨ n < 0 then 1 else if 0 < n ∧ (st.get 8 q).s.size = 0 ∧ 0 < (st.get 8 q).n 1 then 2 else 0
def pReadV (st : VSt) (q n : Int) : VSt := if pHas st q = false ∨ n < 0 then pSaw st q else if 0 < n ∧ 0 < (st.get 8 q).s.size then (pLook st q).put 8 q ((st.get 8 q).text (pLeft (st.get 8 q).s n)) else pLook st q

theorem size_none {s : ByteArray} (h : s.size = 0) : s = ⟨#[]⟩ := by
  apply ByteArray.ext
  apply Array.ext
  · simpa using h
  · intro i a b; simp at b

theorem pread_any (L : Lay) (st : VSt) (q n : Int) (w : World) (hV : ViewAt w L st) :
    Calls Try.prog 36 #[.pointer (some ⟨L.v, 0, none⟩), .int .i64 q, .int .i64 n] w fun e w' => e = .returned (.tuple #[.string (pRead st q n), .int .i64 (pReadS st q n)]) ∧ ViewAt w' L (pReadV st q n) ∧ Turn (fun k => k = L.r ∨ k = L.m) w w' := by
  unfold pRead pReadS pReadV
  by_cases a1 : pHas st q = false ∨ n < 0
  · rw [if_pos a1, if_pos a1, if_pos a1]
    refine (pread_no L st q n ?_ w hV).mono fun e w' ⟨a, b, c⟩ => ⟨a, b, c.mono fun _ _ => Or.inl⟩
    cases h : pHas st q with
    | false => exact Or.inl rfl
    | true =>
      rw [h] at a1
      exact Or.inr ⟨rfl, decide_eq_true (a1.resolve_left (by decide))⟩
  · rw [if_neg a1, if_neg a1, if_neg a1]
    have hh : pHas st q = true := by
      cases h : pHas st q with
      | false => exact absurd (Or.inl h) a1
      | true => rfl
    have hn : 0 ≤ n := by omega
    by_cases a2 : 0 < n ∧ 0 < (st.get 8 q).s.size
    · rw [if_pos a2, if_neg (by omega), if_pos a2]
      exact pread_some L st q n _ rfl hh a2.1 a2.2 w hV
    · rw [if_neg a2, if_neg a2]
      by_cases a3 : 0 < n ∧ (st.get 8 q).s.size = 0 ∧ 0 < (st.get 8 q).n 1
      · rw [if_pos a3]
        exact (pread_block L st q n _ rfl hh a3.1 (size_none a3.2.1) a3.2.2 w hV).mono fun e w' ⟨a, b, c⟩ => ⟨a, b, c.mono fun _ _ => Or.inl⟩
      · rw [if_neg a3]
        refine (pread_none L st q n _ rfl hh ?_ w hV).mono fun e w' ⟨a, b, c⟩ => ⟨a, b, c.mono fun _ _ => Or.inl⟩
        by_cases h0 : n = 0
        · exact Or.inl h0
        · exact Or.inr ⟨by omega, size_none (by omega), by omega⟩
end Go.Proofs.Ytdlcbclfniahoaa.St
