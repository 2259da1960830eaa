/- The contracts of space.pages and space.Pages. No condition but those written in each statement. -/
import Derived.Test.YtdlcbclfniahoaaDoorSpA
import Derived.Laws.AppendOwn
import Derived.Laws.IdiomStrings
import Derived.OwnWalk
import Derived.LoopTactic
namespace Go.Proofs.YtdlcbclfniahoaaDoor.St
open Go.RowKit
set_option linter.unusedVariables false

theorem info_int : (Tryd.prog.info? 3).map (fun i => (i.zero, i.size, i.bytes)) = some (some (.int .i64 0), 1, 8) := by kernel_rfl
/-- A list of numbers in blocks from B on. -/
def IL (B : Nat) (W : World) (v : Value) (ps : List Int) : Prop := W.ownsRow B 3 1 v ps.length (ps.map (Value.int .i64))
theorem IL.nil (B : Nat) (W : World) : IL B W (.slice none 0 0) [] := World.ownsRow_nil _ _ _ _
theorem IL.keep {B : Nat} {W W' : World} {v : Value} {ps : List Int} (h : IL B W v ps) (hb : ∀ g, B ≤ g → g < W.heap.size → W'.heap[g]? = W.heap[g]?) : IL B W' v ps := by
  refine ⟨h.1, ?_⟩
  rcases h.2 with q | ⟨g, cap, cur, h1, h2, h3, h4⟩
  · exact Or.inl q
  · exact Or.inr ⟨g, cap, cur, h1, h2, (hb g h2 (lt_of_heap h3)).trans h3, h4⟩
theorem IL.below {B : Nat} {W W' : World} {v : Value} {ps : List Int} (h : IL B W v ps) (hb : Below W.heap.size W W') : IL B W' v ps := h.keep fun g _ hg => hb.block g hg
theorem IL.mono {B C : Nat} {W : World} {v : Value} {ps : List Int} (h : IL B W v ps) (hc : C ≤ B) : IL C W v ps := by
  refine ⟨h.1, ?_⟩
  rcases h.2 with q | ⟨g, cap, cur, h1, h2, h3, h4⟩
  · exact Or.inl q
  · exact Or.inr ⟨g, cap, cur, h1, by omega, h3, h4⟩
theorem il_push {B : Nat} {wr w1 : World} {v v' : Value} {o : Obj} {ps : List Int} {p : Int} (hB : B ≤ wr.heap.size) (hown : IL B wr v ps)
    (hown' : w1.ownsRow B 3 1 v' (ps.length + 1) (ps.map (Value.int .i64) ++ [.int .i64 p])) (hgrow : (wr.alloc o).grownBy w1 v.ownBlock) :
    IL B w1 v' (ps ++ [p]) ∧ Below B wr w1 :=
  ⟨by simpa [IL] using hown', ((Below.refl B wr).alloc hB o).grown hgrow (by simp; omega) (fun j hj => by have := (World.ownsRow.lt hown j hj).1; omega)⟩
/-- A process's pages. -/
def pgL (l : List UInt8) : List Int := l.map fun b => (b.toNat : Int) % 64
def BR (W : World) (G : Nat) (l : List UInt8) : Prop := ∀ j (h : j < l.length), W.cell? ⟨G, j, none⟩ = some (.int .u8 (l[j].toNat : Int))

attribute [local irreducible] Int.lt Int.le
set_option maxRecDepth 100000 in
set_option maxHeartbeats 1000000 in
theorem pages_any (s : ByteArray) (hs : s.size ≤ 1000) (w : World) :
    Calls Tryd.prog 26 #[.string s] w fun e w' => ∃ v, e = .returned v ∧ IL w.heap.size w' v (pgL s.data.toList) ∧ Below w.heap.size w w' := by
  obtain ⟨i0, hi, hq⟩ := Option.map_eq_some_iff.1 info_int
  simp only [Prod.mk.injEq] at hq
  obtain ⟨hz0, hz1, hz2⟩ := hq
  have hcv := run_bytes_of_string (P := Tryd.prog) w 9 53 5 s Tryd.underlying9 Tryd.underlying53 Tryd.underlying5
  have hl : s.data.toList.length = s.size := by simp
  go_enter Tryd.func26, Tryd.ntmps26
  go_upto_region 3 with fail
  clear hcv
  generalize grownCap w s.size 0 5 = C
  have b1 : Below w.heap.size w (w.alloc (.cells (bytesRow s C) 5 ((bytesRow s C).size, (bytesRow s C).size + 1))).drew := ((Below.refl _ _).alloc (Nat.le_refl _) _).drew
  have r1 : BR (w.alloc (.cells (bytesRow s C) 5 ((bytesRow s C).size, (bytesRow s C).size + 1))).drew w.heap.size s.data.toList := by
    intro j hj
    have hj2 : j < s.data.size := by simpa using hj
    show (w.alloc (.cells (bytesRow s C) 5 ((bytesRow s C).size, (bytesRow s C).size + 1))).cell? ⟨w.heap.size, j, none⟩ = _
    rw [World.cell?_alloc_mark, bytesRow_at s C j hj2]
    rfl
  have z1 : w.heap.size < (w.alloc (.cells (bytesRow s C) 5 ((bytesRow s C).size, (bytesRow s C).size + 1))).drew.heap.size := by
    show w.heap.size < (w.heap.push _).size
    rw [Array.size_push]; omega
  generalize (w.alloc (.cells (bytesRow s C) 5 ((bytesRow s C).size, (bytesRow s C).size + 1))).drew = W1 at *
  have Hl := Lib.hid hl
  clear hl
  go_loopw [3, 9] (fun out i wr => ∃ j : Nat, j ≤ s.size ∧ i = .int .i64 (j : Int) ∧ IL W1.heap.size wr out (pgL (s.data.toList.take j)) ∧ Below W1.heap.size W1 wr) (fun _ i _ => s.size - (intOf i).toNat)
  case atStart => exact ⟨0, Nat.zero_le _, rfl, IL.nil _ _, Below.refl _ _⟩
  case round =>
    obtain ⟨j, hj, rfl, own, hb⟩ := hrel
    have l0 : (0 : Int) ≤ (j : Int) := by omega
    by_cases hlt : j < s.size
    · have l1 : (j : Int) < (s.size : Int) := by omega
      have x0 := (hb.cell (p := ⟨w.heap.size, j, none⟩) z1).trans (r1 j (by rw [Hl.out]; exact hlt))
      have e2 : pgL (s.data.toList.take j) ++ [((s.data.toList[j]'(by rw [Hl.out]; exact hlt)).toNat : Int) % 64] = pgL (s.data.toList.take (j + 1)) := by
        unfold pgL
        rw [List.take_succ_eq_append_getElem (by rw [Hl.out]; exact hlt), List.map_append]; rfl
      have nl : (pgL (s.data.toList.take j)).length ≤ 1000 := by unfold pgL; simp; omega
      have hbw := hb.size
      have E2 := Lib.hid e2
      have hu : ((s.data.toList[j]'(by rw [Hl.out]; exact hlt)).toNat : Int) < 256 := by have := (s.data.toList[j]'(by rw [Hl.out]; exact hlt)).toNat_lt; omega
      clear e2 r1
      generalize (s.data.toList[j]'(by rw [Hl.out]; exact hlt)).toNat = u at *
      generalize pgL (s.data.toList.take j) = done at *
      have O := own
      unfold IL at O
      go_wp2_with (first
        | (at_builtin; refine wpList_append_own _ rfl _ _ 31 rfl W1.heap.size 3 i0 (.int .i64 0) 1 8 Tryd.underlying31 hi hz0 hz1 hz2 rfl (by decide) _ _ _ rfl (World.ownsRow.alloc O _) ⟨_, 0, none⟩ 1 1 [.int .i64 ((u : Int) % 64)] rfl rfl ?c1 ?c2 ?c3 ?c4 ?c5 ?_)
        | fail)
      case c1 =>
        intro j u hj
        match j, hj with
        | 0, hj => simp at hj; subst hj; simp [Addr.add]
      case c2 => intro u hu; simp at hu; subst hu; rfl
      case c3 => unfold maxLen; omega
      case c4 => omega
      case c5 => simp; omega
      intro v' W6 hown' hgrow _
      have RR := il_push hbw own hown' hgrow
      rw [E2.out] at RR
      have O6 := Lib.hid RR.1
      have b6 := hb.trans RR.2
      clear hown' hgrow O own RR E2 hb x0
      go_wp2_with fail
      exact ⟨⟨j + 1, by omega, by go_num, O6.out, b6⟩, by simp [intOf]; omega⟩
    · obtain rfl : j = s.size := by omega
      rw [← Hl.out, List.take_length] at own
      go_wp2_with fail
      go_ret
      exact ⟨_, rfl, own.mono (by omega), b1.trans (hb.mono (by omega))⟩
attribute [local go_sem] blk_alloc_at blk_alloc_past blk_drew blk_drewN blk_setB_same blk_setB_other blk_setRow_other setRow_alloc_at setRow_alloc_past setRow_drewN setRow_drew setB_size setB_cell setB_frozen setB_alloc_past setB_drewN setB_drew run_loadV loadOr_cells run_storeV storeOr_cells cells_size ones_cells cells_0 cells_1 cells_2 cells_16
attribute [local go_sem ↓] execOp_loadV execOp_storeV
attribute [local go_sem ↓] wp_at0 wp_at1 wp_at2 wp_at3 wp_at4 wp_at5 wp_at6 wp_at7
/-- What Pages tells. -/
def sPg (st : VSt) (p : Int) : List Int := if qState st p = 0 then [] else pgL (st.get 4 p).s.data.toList
theorem run_fieldS (x : Val) (W : World) : (Instr.field 45 (.agg x.cells) 1).run Tryd.prog W = .ok (.string x.s) W := by kernel_rfl
attribute [local go_sem] run_fieldN run_indexN run_fieldS
set_option maxRecDepth 100000 in
set_option maxHeartbeats 1000000 in
theorem spages_any (L : Lay) (st : VSt) (p : Int) (hs : (st.get 4 p).s.size ≤ 1000) (w : World) (hV : ViewAt w L st) :
    Calls Tryd.prog 9 #[.pointer (some ⟨L.v, 0, none⟩), .int .i64 p] w fun e w' => ∃ v, e = .returned v ∧ IL w.heap.size w' v (sPg st p) ∧ (∃ st', (∀ k n, st'.get k n = st.get k n) ∧ ViewAt w' L st') ∧ Turn (· = L.r) w w' := by
  have lt := hV.lts
  by_cases h : qState st p = 0
  · rw [show sPg st p = [] by unfold sPg; rw [if_pos h]]
    go_enter Tryd.func9, Tryd.ntmps9
    go_wp2_with fail
    refine (qstate_any L st p w hV).mono ?_; rw [h]; rintro e w1 ⟨rfl, hv1, t1⟩
    go_wp2_with fail
    go_ret
    exact ⟨_, rfl, IL.nil _ _, ⟨_, get_qSaw st p, hv1⟩, t1⟩
  · have hb : (qState st p == 0) = false := beq_eq_false_iff_ne.2 h
    rw [show sPg st p = pgL (st.get 4 p).s.data.toList by unfold sPg; rw [if_neg h]]
    obtain ⟨x, hx⟩ : ∃ x, x = st.get 4 p := ⟨_, rfl⟩
    rw [← hx] at hs ⊢
    have Hx := Lib.hid hx
    obtain ⟨q, hq⟩ : ∃ q, q = qState st p := ⟨_, rfl⟩
    rw [← hq] at hb
    have Hq := Lib.hid hq
    clear hx h hq
    go_enter Tryd.func9, Tryd.ntmps9
    go_wp2_with fail
    refine (qstate_any L st p w hV).mono ?_; rw [← Hq.out]; rintro e w1 ⟨rfl, hv1, t1⟩
    clear hV Hq
    go_wp2_with fail
    refine (skeys_any p _).mono ?_; rintro e w2 ⟨rfl, t2⟩
    have v2 := hv1.below t2
    have tt2 := t1.trans (Turn.of_below t2 _)
    clear hv1 t1 t2
    have v3 := (v2.alloc (Obj.cells #[.int .i64 4, .int .i64 p] 48)).alloc (Obj.cells #[.int .i64 12, .int .i64 p] 48)
    have t3 := (tt2.alloc (Obj.cells #[.int .i64 4, .int .i64 p] 48)).alloc (Obj.cells #[.int .i64 12, .int .i64 p] 48)
    have sk1 : (w2.alloc (Obj.cells #[.int .i64 4, .int .i64 p] 48)).heap.size = w2.heap.size + 1 := by simp
    have bb2 := (Below.refl (w2.alloc (Obj.cells #[.int .i64 4, .int .i64 p] 48)).heap.size (w2.alloc (Obj.cells #[.int .i64 4, .int .i64 p] 48))).alloc (Nat.le_refl _) (Obj.cells #[.int .i64 12, .int .i64 p] 48)
    have q1 : blk ((w2.alloc (Obj.cells #[.int .i64 4, .int .i64 p] 48)).alloc (Obj.cells #[.int .i64 12, .int .i64 p] 48)) w2.heap.size = some (.cells #[.int .i64 4, .int .i64 p] 48 (0, 0)) := blk_below bb2 (blk_alloc_at _ _ _ rfl) (by omega)
    go_upto_region 4 with fail
    clear v2 tt2 bb2 sk1
    generalize ((w2.alloc (Obj.cells #[.int .i64 4, .int .i64 p] 48)).alloc (Obj.cells #[.int .i64 12, .int .i64 p] 48)) = W3 at *
    have e0 := (key_cells q1).1
    have e1 := (key_cells q1).2
    go_wp2_with fail
    refine (vget_any L (qSaw st p) 4 p _ v3).mono ?_; rw [get_qSaw, ← Hx.out]; rintro e w4 ⟨rfl, v4, t4⟩
    have tt4 := t3.trans t4
    clear e0 e1 q1 v3 t3 t4
    go_wp2_with fail
    refine (pages_any x.s hs _).mono ?_; rintro e w5 ⟨v, rfl, own, t5⟩
    go_wp2_with fail
    go_ret
    exact ⟨_, rfl, own.mono tt4.size, ⟨_, fun k n => by rw [get_saw, get_qSaw], v4.below t5⟩, tt4.trans (Turn.of_below t5 _)⟩
end Go.Proofs.YtdlcbclfniahoaaDoor.St
