/- The contract of cloisterkeep.New of one write. No condition but those written in each statement. -/
import Derived.Test.YtdlcbclfniahoaaDoorRefP
import Derived.Test.YtdlcbclfniahoaaDoorStd
import Derived.Deep.Cut
namespace Go.Proofs.YtdlcbclfniahoaaDoor.St
open Go.RowKit
set_option linter.unusedVariables false

/-- A write's cells. -/
def wcells (k m : Int) (x : Val) : Array Value :=
  #[.int .i64 k, .int .i64 m, .int .i64 (x.n 0), .int .i64 (x.n 1), .int .i64 (x.n 2), .int .i64 (x.n 3), .int .i64 (x.n 4), .int .i64 (x.n 5), .int .i64 (x.n 6), .int .i64 (x.n 7),
    .int .i64 (x.n 8), .int .i64 (x.n 9), .int .i64 (x.n 10), .int .i64 (x.n 11), .int .i64 (x.n 12), .int .i64 (x.n 13), .int .i64 (x.n 14), .int .i64 (x.n 15), .string x.s]
theorem wcells_size (k m : Int) (x : Val) : (wcells k m x).size = 19 := by simp [wcells]
theorem wcells_one (k m : Int) (x : Val) : (wcells k m x).all (·.oneCell') = true := by simp [wcells, Value.oneCell']
theorem wcells_ext (k m : Int) (x : Val) : (wcells k m x).extract 2 (2 + 17) = x.cells := by
  apply Array.toList_inj.1
  simp [wcells, Val.cells]
theorem wcells_text (k m : Int) (x : Val) (s : ByteArray) : (wcells k m x).setIfInBounds 18 (.string s) = wcells k m (x.text s) := rfl
theorem write_size : (Tryd.prog.info? 57).map (·.size) = some 19 := by kernel_rfl
theorem write_struct : ∃ fs, Tryd.prog.underlying 57 = some (.struct fs) := ⟨_, Tryd.underlying57⟩
theorem run_loadV_mid (W : World) (l o : Nat) (c : Array Value) (x : Val) (t : TypeId) (fz : Nat × Nat) (hl : blk W l = some (.cells c t fz)) (hx : c.extract o (o + 17) = x.cells) :
    (loadV (.pointer (some ⟨l, o, none⟩))).run Tryd.prog W = .ok (.value (.agg x.cells)) W := by
  obtain ⟨fs, hu⟩ := val_struct
  have hr := World.rangeAt_of_block (w := W) hl o 17
  rw [hx] at hr
  have := run_loadVar_mid (P := Tryd.prog) W l o 45 x.cells.toList _ hr hu rfl (by rw [val_size]; simp [Val.cells])
  unfold loadV
  simp only [Instr.loadAt, Instr.sureAddr, Sem.run_bind, Sem.run_pure, Result.andThen_ok, this]
/-- A write loaded whole, stored whole. -/
noncomputable def loadW (p : Value) : Sem Next := do pure (.value (← Instr.loadAt 57 p))
theorem execOp_loadW (ρ : Operand → Value) (dst : Option Tmp) (x : Operand) (ty : TypeId) (pos : String) (after : Array Edge) (guard : Option (Nat × Bool)) :
    execOp ρ { dst, op := .load 57 x, type := ty, pos, after, guard } = loadW (ρ x) := rfl
noncomputable def storeW (p x : Value) : Sem Next := do Instr.storeAt 57 p x; pure .skip
theorem execOp_storeW (ρ : Operand → Value) (dst : Option Tmp) (x y : Operand) (ty : TypeId) (pos : String) (after : Array Edge) (guard : Option (Nat × Bool)) :
    execOp ρ { dst, op := .store 57 x y, type := ty, pos, after, guard } = storeW (ρ x) (ρ y) := rfl
theorem run_loadW (W : World) (l : Nat) (k m : Int) (x : Val) (t : TypeId) (fz : Nat × Nat) (hl : blk W l = some (.cells (wcells k m x) t fz)) :
    (loadW (.pointer (some ⟨l, 0, none⟩))).run Tryd.prog W = .ok (.value (.agg (wcells k m x))) W := by
  obtain ⟨fs, hu⟩ := write_struct
  have := run_loadVar_row (P := Tryd.prog) W l t 57 (wcells k m x) fz _ hl hu rfl (by rw [write_size, wcells_size])
  unfold loadW
  simp only [Instr.loadAt, Instr.sureAddr, Sem.run_bind, Sem.run_pure, Result.andThen_ok, this]
theorem run_storeW (W : World) (b : Nat) (k m : Int) (x : Val) (c : Array Value) (t : TypeId) (hl : blk W b = some (.cells c t (0, 0))) (hc : c.size = 19) :
    (storeW (.pointer (some ⟨b, 0, none⟩)) (.agg (wcells k m x))).run Tryd.prog W = .ok .skip (W.setRow b (wcells k m x)) := by
  have := run_storeVar_row (P := Tryd.prog) W b t 57 c (wcells k m x) hl (by rw [write_size, wcells_size]) (by rw [hc, wcells_size]) (wcells_one k m x)
  unfold storeW
  simp only [Instr.storeAt, Instr.sureAddr, Sem.run_bind, Sem.run_pure, Result.andThen_ok, this]

/-- What the loop of New holds. -/
structure KN (w W : World) (t s l d r R : Nat) (k m : Int) (x : Val) (j : Nat) : Prop where
  sa : StoreAt W s l (if j = 0 then (fun _ => Val.zero) else storePut (fun _ => Val.zero) k m x)
  rs : RSt W d r j
  tw : blk W t = some (.cells #[.pointer (some ⟨s, 0, none⟩), .pointer none, .pointer (some ⟨d, 0, none⟩), .pointer none] 29 (0, 0))
  wr : blk W R = some (.cells (wcells k m x) 57 (0, 0))
  b : Below w.heap.size w W

attribute [local go_sem] blk_alloc_at blk_alloc_past blk_drew blk_drewN blk_setB_same blk_setB_other blk_setRow_other setRow_alloc_at setRow_alloc_past setRow_drewN setRow_drew setB_size setB_cell setB_frozen setB_alloc_past setB_drewN setB_drew run_loadV loadOr_cells run_storeV storeOr_cells cells_size ones_cells cells_0 cells_1 cells_2 cells_16 wcells_size
attribute [local go_sem ↓] execOp_loadV execOp_storeV execOp_loadW execOp_storeW
attribute [local go_sem ↓] wp_at0 wp_at1 wp_at2 wp_at3 wp_at4 wp_at5 wp_at6 wp_at7
attribute [local irreducible] Int.lt Int.le
set_option maxRecDepth 100000 in
set_option maxHeartbeats 4000000 in
theorem tnew_one (R : Nat) (k m : Int) (x : Val) (hk : k ≤ 9223372036854775807) (hp : 0 ≤ placeI k m) (hx : x.s = ByteArray.empty) (w : World) (hw : blk w R = some (.cells (wcells k m x) 57 (0, 0))) :
    Calls Tryd.prog 18 #[.slice (some ⟨R, 0, none⟩) 1 1] w fun e w' => ∃ t d q, ∃ L : Lay, e = .returned (.pointer (some ⟨t, 0, none⟩)) ∧ Std w t L d q (VSt.fresh (storePut (fun _ => Val.zero) k m x)) w' := by
  go_enter Tryd.func18, Tryd.ntmps18
  go_wp2_with fail
  refine (new_any _).mono ?_; rintro e w1 ⟨s, l, rfl, hS, t1, gs, gl⟩
  go_wp2_with fail
  refine (rstore_any _).mono ?_; rintro e w2 ⟨rfl, rfl⟩
  go_wp2_with fail
  have z1 := t1.size
  have lw := lt_of_heap hS.cs
  obtain ⟨cl0, hcl, _⟩ := hS.cl
  have ll := lt_of_heap hcl
  have hsl : s ≠ l := by
    rintro rfl
    rw [hS.cs] at hcl
    have := congrArg (fun o => match o with | some (Obj.cells c _ _) => c.size | _ => 0) hcl
    simp at this
    omega
  have I0 : KN w (((w1.alloc (Obj.map #[] 0)).alloc (Obj.cells #[Value.map (some w1.heap.size)] 102)).alloc (Obj.cells #[Value.pointer (some ⟨s, 0, none⟩), .pointer none, .pointer (some ⟨w1.heap.size + 1, 0, none⟩), .pointer none] 29)) (w1.heap.size + 1 + 1) s l (w1.heap.size + 1) w1.heap.size R k m x 0 := by
    have ba := (Below.refl w1.heap.size w1).alloc (Nat.le_refl _) (Obj.map #[] 0)
    have sa : (w1.alloc (Obj.map #[] 0)).heap.size = w1.heap.size + 1 := by simp
    have bb := (Below.refl (w1.alloc (Obj.map #[] 0)).heap.size (w1.alloc (Obj.map #[] 0))).alloc (Nat.le_refl _) (Obj.cells #[Value.map (some w1.heap.size)] 102)
    have sb : ((w1.alloc (Obj.map #[] 0)).alloc (Obj.cells #[Value.map (some w1.heap.size)] 102)).heap.size = w1.heap.size + 1 + 1 := by simp
    have hr : blk (w1.alloc (Obj.map #[] 0)) w1.heap.size = some (.map #[] 0) := blk_alloc_at _ _ _ rfl
    have hd : blk ((w1.alloc (Obj.map #[] 0)).alloc (Obj.cells #[Value.map (some w1.heap.size)] 102)) (w1.heap.size + 1) = some (.cells #[Value.map (some w1.heap.size)] 102 (0, 0)) := blk_alloc_at _ _ _ sa.symm
    have hm : (w1.alloc (Obj.map #[] 0)).ownsMap Tryd.prog 3 (fun _ => some ((DataW.lit (.bool true) : DataW Unit), [])) w1.heap.size 0 (.map []) := World.ownsMap_made _ _ _ _
    have R2 : RSt ((w1.alloc (Obj.map #[] 0)).alloc (Obj.cells #[Value.map (some w1.heap.size)] 102)) (w1.heap.size + 1) w1.heap.size 0 := by
      obtain ⟨es, ck, h1, h2⟩ := hm
      exact ⟨hd, _, es, ck, blk_below bb h1 (by omega), h2⟩
    have bc := (Below.refl ((w1.alloc (Obj.map #[] 0)).alloc (Obj.cells #[Value.map (some w1.heap.size)] 102)).heap.size ((w1.alloc (Obj.map #[] 0)).alloc (Obj.cells #[Value.map (some w1.heap.size)] 102))).alloc (Nat.le_refl _) (Obj.cells #[Value.pointer (some ⟨s, 0, none⟩), .pointer none, .pointer (some ⟨w1.heap.size + 1, 0, none⟩), .pointer none] 29)
    have b3 := ba.trans ((bb.mono (by omega)).trans (bc.mono (by omega)))
    refine ⟨?_, R2.turn (Turn.of_below bc (fun _ => False)) (fun q => q) (fun q => q), blk_alloc_at _ _ _ sb.symm, ?_, t1.trans (b3.mono z1)⟩
    · rw [if_pos rfl]
      exact hS.keep (Turn.of_below b3 (fun _ => False)) (fun q => q) (fun q => q)
    · exact blk_below (t1.trans (b3.mono z1)) hw (blk_lt hw)
  have hR := blk_lt hw
  have ht : w.heap.size ≤ w1.heap.size + 1 + 1 := by omega
  have hts : w1.heap.size + 1 + 1 ≠ s := by omega
  have htl : w1.heap.size + 1 + 1 ≠ l := by omega
  have htr : w1.heap.size + 1 + 1 ≠ w1.heap.size := by omega
  have hdl : w1.heap.size + 1 ≠ l := by omega
  have hrl : w1.heap.size ≠ l := by omega
  have hrs : w1.heap.size ≠ s := by omega
  have hr0 : w.heap.size ≤ w1.heap.size := z1
  generalize (((w1.alloc (Obj.map #[] 0)).alloc (Obj.cells #[Value.map (some w1.heap.size)] 102)).alloc (Obj.cells #[Value.pointer (some ⟨s, 0, none⟩), .pointer none, .pointer (some ⟨w1.heap.size + 1, 0, none⟩), .pointer none] 29)) = W3 at *
  generalize w1.heap.size + 1 + 1 = t at *
  generalize w1.heap.size + 1 = d at *
  generalize w1.heap.size = r at *
  clear hS t1 z1 lw ll hcl hw
  go_loopw [4] (fun i wr => ∃ j : Nat, j ≤ 1 ∧ i = .int .i64 (j : Int) ∧ KN w wr t s l d r R k m x j) (fun i _ => 1 - (intOf i).toNat)
  case atStart => exact ⟨0, by omega, rfl, I0⟩
  case round =>
    clear I0
    obtain ⟨j, j1, rfl, I⟩ := hrel
    have c0 := cell_of_row _ _ 0 _ _ _ I.tw
    have c2 := cell_of_row _ _ 2 _ _ _ I.tw
    simp at c0 c2
    rcases (show j = 0 ∨ j = 1 by omega) with rfl | rfl
    · have hlw := run_loadW wr R k m x _ _ I.wr
      have hst : (storeW (.pointer (some ⟨wr.heap.size, 0, none⟩)) (.agg (wcells k m x))).run Tryd.prog (wr.alloc (Obj.cells #[Value.int IntKind.i64 0, Value.int IntKind.i64 0, Value.int IntKind.i64 0, Value.int IntKind.i64 0, Value.int IntKind.i64 0, Value.int IntKind.i64 0, Value.int IntKind.i64 0, Value.int IntKind.i64 0, Value.int IntKind.i64 0, Value.int IntKind.i64 0, Value.int IntKind.i64 0, Value.int IntKind.i64 0, Value.int IntKind.i64 0, Value.int IntKind.i64 0, Value.int IntKind.i64 0, Value.int IntKind.i64 0, Value.int IntKind.i64 0, Value.int IntKind.i64 0, Value.string { data := #[] }] 57)) = .ok .skip (wr.alloc (Obj.cells (wcells k m x) 57)) := by
        rw [run_storeW _ _ _ _ _ _ _ (blk_alloc_at wr _ _ rfl) rfl, setRow_alloc_at _ _ _ _ _ rfl]
      go_upto_region 8 with fail
      have b4 : blk (wr.alloc (Obj.cells (wcells k m x) 57)) wr.heap.size = some (.cells (wcells k m x) 57 (0, 0)) := blk_alloc_at _ _ _ rfl
      have bb := (Below.refl wr.heap.size wr).alloc (Nat.le_refl _) (Obj.cells (wcells k m x) 57)
      have sa4 := I.sa.keep (Turn.of_below bb (fun _ => False)) (fun q => q) (fun q => q)
      have rs4 := I.rs.turn (Turn.of_below bb (fun _ => False)) (fun q => q) (fun q => q)
      have tw4 := blk_below bb I.tw (blk_lt I.tw)
      have wr4 := blk_below bb I.wr (blk_lt I.wr)
      have bw4 : Below w.heap.size w (wr.alloc (Obj.cells (wcells k m x) 57)) := I.b.trans (bb.mono I.b.size)
      have n1 := lt_of_heap I.sa.cs
      have n2 := I.rs.lt
      have n3 := blk_lt I.tw
      have n4 : l < wr.heap.size := by obtain ⟨_, q, _⟩ := I.sa.cl; exact lt_of_heap q
      have n5 := I.b.size
      rw [if_pos rfl] at sa4
      clear hlw hst bb I c0 c2
      generalize wr.alloc (Obj.cells (wcells k m x) 57) = W4 at *
      generalize wr.heap.size = B at *
      have c18 : W4.cell? ⟨B, 18, none⟩ = some (.string ByteArray.empty) := by rw [cell_of_row _ _ 18 _ _ _ b4, ← hx]; rfl
      have f18 := frozen_blk b4 18
      go_upto_region 9 with fail
      have b5 := blk_setCell_same b4 18 (Value.string ByteArray.empty)
      rw [wcells_text, show x.text ByteArray.empty = x by rw [← hx]; rfl] at b5
      have t5 : Turn (· = B) W4 (W4.setCell ⟨B, 18, none⟩ (Value.string ByteArray.empty)) := (Turn.refl (· = B) W4).setCell (p := ⟨B, 18, none⟩) (Or.inl (show B = B from rfl)) _
      have sa5 := sa4.keep t5 (show ¬ s = B by omega) (show ¬ l = B by omega)
      have rs5 := rs4.turn t5 (show ¬ d = B by omega) (show ¬ r = B by omega)
      have tw5 := blk_of_turn t5 tw4 (show ¬ t = B by omega)
      have wr5 := blk_of_turn t5 wr4 (show ¬ R = B by omega)
      have bw5 : Below w.heap.size w (W4.setCell ⟨B, 18, none⟩ (Value.string ByteArray.empty)) := bw4.trans (t5.below (B := w.heap.size) bw4.size (fun i q => by have : i = B := q; omega))
      clear c18 f18 b4 t5 sa4 rs4 tw4 wr4 bw4
      generalize W4.setCell ⟨B, 18, none⟩ (Value.string ByteArray.empty) = W5 at *
      have sa6 : StoreAt W5.drew s l (fun _ => Val.zero) := sa5.keep (Turn.refl (fun _ => False) W5).drew (fun q => q) (fun q => q)
      have c0 : W5.drew.cell? ⟨t, 0, none⟩ = some (.pointer (some ⟨s, 0, none⟩)) := cell_of_row W5 _ 0 _ _ _ tw5
      have k0 : W5.drew.cell? ⟨B, 0, none⟩ = some (.int .i64 k) := cell_of_row W5 _ 0 _ _ _ b5
      have k1 : W5.drew.cell? ⟨B, 1, none⟩ = some (.int .i64 m) := cell_of_row W5 _ 1 _ _ _ b5
      have hlv := run_loadV_mid W5.drew B 2 _ x _ _ b5 (wcells_ext k m x)
      go_region_with (first
        | (go_at_call 32; refine (sput_any s l _ k m x hsl _ sa6).mono ?_; rintro e W6 ⟨rfl, sa7, t7⟩))
      all_goals
        have rs7 := rs5.turn (Turn.trans (Turn.refl _ W5).drew t7) (show ¬ d = l by omega) (show ¬ r = l by omega)
        have tw7 := blk_of_turn (Turn.trans (Turn.refl _ W5).drew t7) tw5 htl
        have wr7 := blk_of_turn (Turn.trans (Turn.refl _ W5).drew t7) wr5 (show ¬ R = l by omega)
        have b7 := blk_of_turn (Turn.trans (Turn.refl _ W5).drew t7) b5 (show ¬ B = l by omega)
        have bw7 : Below w.heap.size w W6 := bw5.trans ((Turn.trans (Turn.refl _ W5).drew t7).below (B := w.heap.size) bw5.size (fun i q => by have : i = l := q; omega))
        clear sa5 rs5 tw5 wr5 b5 bw5 sa6 c0 k0 k1 hlv t7
        go_upto_region 10 with fail
        have rs8 : RSt W6.drew d r 0 := rs7.turn (Turn.refl (fun _ => False) W6).drew (fun q => q) (fun q => q)
        have c2 : W6.drew.cell? ⟨t, 2, none⟩ = some (.pointer (some ⟨d, 0, none⟩)) := cell_of_row W6 _ 2 _ _ _ tw7
        have k0 : W6.drew.cell? ⟨B, 0, none⟩ = some (.int .i64 k) := cell_of_row W6 _ 0 _ _ _ b7
        have k1 : W6.drew.cell? ⟨B, 1, none⟩ = some (.int .i64 m) := cell_of_row W6 _ 1 _ _ _ b7
        have hlv := run_loadV_mid W6.drew B 2 _ x _ _ b7 (wcells_ext k m x)
        go_region_with (first
          | (go_at_call 33; refine (rput_any d r 0 k m x hk hp (by decide) _ rs8).mono ?_; rintro e W7 ⟨rfl, rs9, t9⟩))
        all_goals
          have t9' := Turn.trans (Turn.refl _ W6).drew t9
          have sa9 := sa7.keep t9' (show ¬ s = r by omega) (show ¬ l = r by omega)
          have tw9 := blk_of_turn t9' tw7 htr
          have wr9 := blk_of_turn t9' wr7 (show ¬ R = r by omega)
          have bw9 : Below w.heap.size w W7 := bw7.trans (t9'.below (B := w.heap.size) bw7.size (fun i q => by have : i = r := q; omega))
          clear rs7 rs8 tw7 wr7 b7 bw7 c2 k0 k1 hlv t9 t9' sa7
          go_wp2_with fail
          exact ⟨⟨1, by omega, by go_num, by rw [if_neg (by decide)]; exact sa9, rs9, tw9, wr9, bw9⟩, by simp [intOf]⟩
    · have hsa := I.sa
      rw [if_neg (by decide)] at hsa
      go_wp2_with fail
      refine (tlook_any t s l d (.pointer none) (.pointer none) _ _ hsa I.tw hts htl).mono ?_
      rintro e w3 ⟨L, q, rfl, rfl, rfl, hT3, hv3, hq3, t3, gv, gr, gm⟩
      have d1 := cell_of_row w3 _ 1 _ _ _ hT3
      simp at d1
      have z := I.b.size
      have b3 : Below w.heap.size w w3 := I.b.trans (t3.below (B := w.heap.size) z (fun i q => by have : i = t := q; omega))
      clear c0 c2 hsa I
      go_wp2_with fail
      go_ret
      exact ⟨t, d, q, L, rfl, hv3, hT3, b3, by omega, by omega⟩
end Go.Proofs.YtdlcbclfniahoaaDoor.St
